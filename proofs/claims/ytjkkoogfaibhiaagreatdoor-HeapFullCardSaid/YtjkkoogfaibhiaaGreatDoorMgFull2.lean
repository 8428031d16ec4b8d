/- Texts 2 of 8 that the proof of Full stands on. -/
import Derived.Test.YtjkkoogfaibhiaaGreatDoorMgFull1
import Derived.Laws.CopyOwn
import Derived.Laws.BytesArg
import Derived.Deep.DeepCutAuto
set_option linter.unusedSimpArgs false
set_option linter.unusedVariables false

/- The pager: leave. -/
namespace Go.Proofs.YtjkkoogfaibhiaaGreatDoor
open Go.RowKit Go.Maps

/-- What is labelled in K has turned. -/
structure TrnS (w w' : World) (L L' : Nat → Nat) (K : Nat → Prop) : Prop where
  chg : Chg (fun j => K (L j)) w w'
  same : ∀ j m, m ≠ 0 → ¬ K m → (L' j = m ↔ L j = m)
  new : ∀ j, K (L' j) → K (L j) ∨ w.heap.size ≤ j
  lt : ∀ j, K (L' j) → j < w'.heap.size
section
variable {w w' w2 : World} {L L' L2 : Nat → Nat} {p d b ca c M1 s1 M2 s2 k : Nat} {X : Gp} {o o' : Cg} {A : Option Addr} {vp vt vw vl : Value} {vo : Option Addr} {K : Nat → Prop} {F : Nat → Prop}
theorem Trn.s (h : Trn w w' L L' k) (hl : ∀ j, L j ≠ 0 → j < w.heap.size) (hk : K k) (h0 : ¬ K 0) : TrnS w w' L L' K :=
  ⟨h.chg.mono fun i _ e => by rw [e]; exact hk, fun j m hm hK => h.same j m hm fun e => hK (e ▸ hk), fun j hj => by
    by_cases e : L' j = k
    · exact (h.new j e).imp (fun e1 => by rw [e1]; exact hk) id
    · exact .inl (by rw [(h.same j _ (fun e0 => h0 (e0 ▸ hj)) e).1 rfl]; exact hj), fun j hj => by
    by_cases e : L' j = k
    · exact h.lt j e
    · have e1 := (h.same j _ (fun e0 => h0 (e0 ▸ hj)) e).1 rfl
      exact Nat.lt_of_lt_of_le (hl j (fun e0 => h0 (e0 ▸ e1.symm ▸ hj))) h.chg.size⟩
theorem TrnS.trans (h : TrnS w w' L L' K) (g : TrnS w' w2 L' L2 K) : TrnS w w2 L L2 K :=
  ⟨Chg.trans h.chg g.chg fun i hi e => (h.new i e).resolve_right (by omega), fun j m hm hK => (g.same j m hm hK).trans (h.same j m hm hK), fun j hj => (g.new j hj).elim (fun e => h.new j e) fun e => .inr (Nat.le_trans h.chg.size e), g.lt⟩
theorem labS_lt (hl : ∀ j, L j ≠ 0 → j < w.heap.size) (ht : TrnS w w' L L' K) : ∀ j, L' j ≠ 0 → j < w'.heap.size := fun j hj => by
  by_cases e : K (L' j)
  · exact ht.lt j e
  · exact Nat.lt_of_lt_of_le (hl j (by have := (ht.same j (L' j) hj e).1 rfl; omega)) ht.chg.size
theorem labS_zero (h0 : L 0 = 0) (ht : TrnS w w' L L' K) (hk : ¬ K 0) (hs : 0 < w.heap.size) : L' 0 = 0 := by
  by_cases e : K (L' 0)
  · rcases ht.new 0 e with e1 | e1
    · rw [h0] at e1; exact absurd e1 hk
    · omega
  · by_cases e0 : L' 0 = 0
    · exact e0
    · have := (ht.same 0 (L' 0) e0 e).1 rfl; omega
/-- What belongs to the open change turns, and the change itself. -/
theorem GIn.opnS (h : GIn w L p X d b A ca vp vt vo) (ht : TrnS w w' L L' K) (hK : ∀ m, K m → 6 ≤ m) (ho : OpnIn w' L' vo (some o')) : GIn w' L' p { X with op := some o' } d b A ca vp vt vo := by
  have h0 := tab_pos h.tab
  have hk : ∀ m, m < 6 → ¬ K m := fun m hm e => by have := hK m e; omega
  have hset : ∀ m, m ≠ 0 → m < 6 → (fun j => L' j = m) = (fun j => L j = m) := fun m h0 hm => funext fun j => propext (ht.same j m h0 (hk m hm))
  have own : ∀ {base s n m : Nat} {e : TypeId} {v : Value} {xs : List Value}, w.ownsRow base e s v n xs → (∀ j, v.ownBlock = some j → L j = m) → m < 6 → w'.ownsRow base e s v n xs := fun h hl hm => own_chg h ht.chg fun g hg e => hk _ hm (hl g hg ▸ e)
  refine ⟨h.blk.chg ht.chg (by rw [h.lp]; exact hk 1 (by omega)), (ht.same p 1 (by omega) (hk 1 (by omega))).2 h.lp, ?_, h.pol.chg ht.chg fun j hj e => hk 3 (by omega) (h.lo j hj ▸ e), fun j hj => (ht.same j 3 (by omega) (hk 3 (by omega))).2 (h.lo j hj),
    own h.pgs h.lg (by omega), fun j hj => (ht.same j 4 (by omega) (hk 4 (by omega))).2 (h.lg j hj), own h.tbl h.lb (by omega), fun j hj => (ht.same j 5 (by omega) (hk 5 (by omega))).2 (h.lb j hj), ho,
    labS_lt h.lt ht, labS_zero h.l0 ht (hk 0 (by omega)) h0, tab_chg h.tab ht.chg (by rw [h.l0]; exact hk 0 (by omega))⟩
  rw [hset 2 (by omega) (by omega)]
  exact h.dsk.chg ht.chg fun j hj e => hk 2 (by omega) (hj ▸ e)
theorem GIn.toS (h : GIn w' L' p X d b A ca vp vt vo) (ht : TrnS w w' L L' K) (hk : ¬ K 0) (hF : ∀ j, F j ↔ L j ≠ 0) : GTo w w' p F X :=
  ⟨fun j => L' j ≠ 0, h.gs, ht.chg.mono fun i _ e => (hF i).2 (fun e0 => hk (e0 ▸ e)), fun j hj => by
    by_cases e : K (L' j)
    · exact (ht.new j e).imp (fun e1 => (hF j).2 (fun e0 => hk (e0 ▸ e1))) id
    · exact .inl ((hF j).2 (by have := (ht.same j (L' j) hj e).1 rfl; omega))⟩
/-- The pool turns. -/
theorem GIn.pool (h : GIn w L p X d b A ca vp vt vo) {x' : List Bool} (hp : PIn w' b x' A ca) (hc : Chg (PF b A) w w') : GIn w' L p { X with free := x' } d b A ca vp vt vo ∧ Trn w w' L L 3 := by
  have hc3 : Chg (fun j => L j = 3) w w' := hc.mono fun i _ e => h.lo i e
  have ht := Trn.keep hc3 h.lt (by omega)
  exact ⟨⟨h.blk.chg ht.chg (by rw [h.lp]; omega), h.lp, dsk_keep h.dsk ht (by omega), hp, h.lo, own_lab h.pgs h.lg ht.chg (by omega), h.lg, own_lab h.tbl h.lb ht.chg (by omega), h.lb, h.opn.keep ht (by omega),
    lab_lt h.lt ht, h.l0, tab_chg h.tab ht.chg (by rw [h.l0]; omega)⟩, ht⟩
end

theorem gleave_none (p s : Nat) (w : World) (hs : s ≤ 1) :
    Calls Tryz.prog 74 #[.pointer (some ⟨p, 0, none⟩), .int .i64 s] w fun e' w' => e' = .returned (.tuple #[]) ∧ w = w' := by
  have h2 : s = 0 ∨ s = 1 := by omega
  rcases h2 with rfl | rfl
  all_goals
    go_enter Tryz.func74, Tryz.ntmps74
    go_wp2
    refine bodyPost_end (results_none rfl _ _ _) rfl ?_
    exact ⟨rfl, rfl⟩

/-- A fresh sector is given back. -/
def Gp.give (X : Gp) (o : Cg) (s : Nat) : Gp := { X with free := trn X.free s, op := some { o with fresh := setB o.fresh s false } }
/-- A sector is left. -/
def Gp.left (X : Gp) (o : Cg) (s : Nat) : Gp := { X with op := some { o with left := o.left ++ [s] } }

set_option maxRecDepth 100000 in
set_option maxHeartbeats 1600000 in
theorem gleave_fresh (p s : Nat) (F : Nat → Prop) (X : Gp) (o : Cg) (w : World) (h : GS w p F X) (hx : X.op = some o) (hl : X.free.length ≤ 65536) (hs : 2 ≤ s) (hf : o.fresh s = true) (hsl : s < X.free.length) (hfr : X.free.getD s false = false) :
    Calls Tryz.prog 74 #[.pointer (some ⟨p, 0, none⟩), .int .i64 s] w fun e' w' => e' = .returned (.tuple #[]) ∧ GTo w w' p F (X.give o s) := by
  obtain ⟨L, d, b, A, ca, vp, vt, vo, h, hF⟩ := h
  obtain ⟨c0, f0, s0⟩ := h.blk.facts
  have ho := h.opn
  rw [hx] at ho
  obtain ⟨c, vw, M1, s1, vl, M2, s2, rfl, hi2⟩ := ho
  obtain ⟨c1, f1, s1'⟩ := hi2.blk.facts
  have hlk := hi2.fr.look (t := 58) kInt Tryz.underlying3 Tryz.underlying58 (zBool w) (i := (s : Int)) (wfInt (by omega) (by omega))
  rw [mB_getD, hf] at hlk
  obtain ⟨W, hr, hm, hc⟩ := hi2.fr.del (t := 58) kInt Tryz.underlying3 Tryz.underlying58 (i := (s : Int)) (wfInt (by omega) (by omega)) 0
  have hcl : Chg (fun j => L j = 8) w W := hc.mono fun i _ e => e ▸ hi2.lf
  have ht := Trn.keep hcl h.lt (by omega)
  have hG : GIn W L p { X with op := some { o with fresh := setB o.fresh s false } } d b A ca vp vt (some ⟨c, 0, none⟩) := by
    refine h.opn_ (o' := { o with fresh := setB o.fresh s false }) ht (by omega) ⟨c, vw, M1, _, vl, M2, s2, rfl, ⟨hi2.blk.chg hcl (by rw [hi2.lc]; omega), hi2.lc, own_lab hi2.was hi2.lw hcl (by omega), hi2.lw, by rw [mB_del] at hm; exact hm, hi2.lf, own_lab hi2.lft hi2.ll hcl (by omega), hi2.ll, hi2.tch.chg hcl (by rw [hi2.lt]; omega), hi2.lt, ⟨?_, fun j hj => ?_⟩, hi2.n2⟩⟩
    · rw [mB_nat, hf]
      have := cntN_drop o.fresh (hi2.n1.2 s hf) hf
      have := hi2.n1.1
      simp
      omega
    · by_cases e : j = s
      · simp [setB, e] at hj
      · exact hi2.n1.2 j (by simpa [setB, e] using hj)
  obtain ⟨c2, f2, s2'⟩ := hG.blk.facts
  have htl : toL X.free (s : Int) true = (trn X.free s, 0) := by
    unfold toL
    rw [if_neg (by omega), Int.toNat_natCast, if_neg (by rw [hfr]; decide)]
  have hgv := pgive_any b s X.free A ca W hG.pol hl
  rw [htl] at hgv
  have e1 : ((s : Int) == 0) = false := by simp; omega
  have e2 : ((s : Int) == 1) = false := by simp; omega
  have H := Lib.hid (And.intro hgv (And.intro hG (And.intro ht (And.intro h.lt hF))))
  clear h hF hx hf hfr hi2 hm hc hcl ht hG htl hgv
  go_enter Tryz.func74, Tryz.ntmps74
  go_wp2_with (go_at_call 48; (refine H.out.1.mono ?_); rintro e w2 ⟨rfl, h2, h3⟩; have H2 := Lib.hid (And.intro h2 h3); clear h2 h3)
  refine bodyPost_end (results_none rfl _ _ _) rfl ⟨rfl, ?_⟩
  have hp := H.out.2.1.pool H2.out.1 H2.out.2
  exact hp.1.toS (K := fun m => m = 8 ∨ m = 3) ((H.out.2.2.1.s H.out.2.2.2.1 (.inl rfl) (by omega)).trans (hp.2.s H.out.2.1.lt (.inr rfl) (by omega))) (by omega) H.out.2.2.2.2

section
variable {w w1 : World} {L : Nat → Nat} {p d b ca c M1 s1 M2 s2 s : Nat} {X : Gp} {o : Cg} {A : Option Addr} {vp vt vw vl vl' : Value} {F : Nat → Prop}
theorem GIn.lpush (h : GIn w L p X d b A ca vp vt (some ⟨c, 0, none⟩)) (hi : ChIn w L o c vw M1 s1 vl M2 s2) (ha : Ap w w1 vl vl') (ho : w1.ownsRow 0 3 1 vl' (o.left.length + 1) (nv o.left ++ [.int .i64 s])) (hF : ∀ j, F j ↔ L j ≠ 0) :
    GTo w (w1.setCell ⟨c, 2, none⟩ vl') p F (X.left o s) := by
  have hcl : Chg (fun j => L j = 9) w w1 := ha.chg.mono fun i _ e => hi.ll i e
  obtain ⟨L', ht, hiff⟩ := Trn.more hcl h.lt (by omega) (F' := fun j => vl'.ownBlock = some j) (fun j hj => (ha.at_ j hj).imp (hi.ll j) id) (fun j hj => (ho.lt j hj).2)
  have hlc : L' c = 6 := (ht.same c 6 (by omega) (by omega)).2 hi.lc
  have hc2 : Chg (fun j => L' j = 6) w1 (w1.setCell ⟨c, 2, none⟩ vl') := (Chg.refl _ _).setCell (p := ⟨c, 2, none⟩) (fun _ => hlc) _
  have ht2 := Trn.keep hc2 (lab_lt h.lt ht) (by omega)
  have hs := (ht.s (K := fun m => m = 9 ∨ m = 6) h.lt (.inl rfl) (by omega)).trans (ht2.s (K := fun m => m = 9 ∨ m = 6) (lab_lt h.lt ht) (.inr rfl) (by omega))
  refine (h.opnS (o' := { o with left := o.left ++ [s] }) hs (by omega) ⟨c, vw, M1, s1, vl', M2, s2, rfl, ⟨?_, hlc, own_lab (own_lab hi.was hi.lw hcl (by omega)) (fun j hj => (ht.same j 7 (by omega) (by omega)).2 (hi.lw j hj)) hc2 (by omega), fun j hj => (ht.same j 7 (by omega) (by omega)).2 (hi.lw j hj),
    (hi.fr.chg hcl (by rw [hi.lf]; omega)).chg hc2 (by rw [(ht.same M1 8 (by omega) (by omega)).2 hi.lf]; omega), (ht.same M1 8 (by omega) (by omega)).2 hi.lf, ?_, fun j hj => (hiff j).2 hj,
    (hi.tch.chg hcl (by rw [hi.lt]; omega)).chg hc2 (by rw [(ht.same M2 10 (by omega) (by omega)).2 hi.lt]; omega), (ht.same M2 10 (by omega) (by omega)).2 hi.lt, hi.n1, hi.n2⟩⟩).toS hs (by omega) hF
  · have := (hi.blk.chg hcl (by rw [hi.lc]; omega)).put 2 vl'
    simpa using this
  · have e : (o.left ++ [s]).length = o.left.length + 1 := by simp
    rw [e]
    have := own_lab ho (fun j hj => (hiff j).2 hj) hc2 (by omega)
    simpa [nv] using this
end

set_option maxRecDepth 100000 in
set_option maxHeartbeats 1600000 in
theorem gleave_old (p s : Nat) (F : Nat → Prop) (X : Gp) (o : Cg) (w : World) (h : GS w p F X) (hx : X.op = some o) (hs : 2 ≤ s) (hs4 : s < 4096) (hf : o.fresh s = false) (hll : o.left.length ≤ 100000) :
    Calls Tryz.prog 74 #[.pointer (some ⟨p, 0, none⟩), .int .i64 s] w fun e' w' => e' = .returned (.tuple #[]) ∧ GTo w w' p F (X.left o s) := by
  obtain ⟨L, d, b, A, ca, vp, vt, vo, h, hF⟩ := h
  obtain ⟨c0, f0, s0⟩ := h.blk.facts
  have ho := h.opn
  rw [hx] at ho
  obtain ⟨c, vw, M1, s1, vl, M2, s2, rfl, hi2⟩ := ho
  obtain ⟨c1, f1, s1'⟩ := hi2.blk.facts
  have hlk := hi2.fr.look (t := 58) kInt Tryz.underlying3 Tryz.underlying58 (zBool w) (i := (s : Int)) (wfInt (by omega) (by omega))
  rw [mB_getD, hf] at hlk
  have e1 : ((s : Int) == 0) = false := by simp; omega
  have e2 : ((s : Int) == 1) = false := by simp; omega
  have H := Lib.hid (And.intro h (And.intro hi2 hF))
  have hpc : w.drew.cell? ⟨p, 6, none⟩ = some (.pointer (some ⟨c, 0, none⟩)) := (h.blk.drew).cell 6
  have hcc : w.drew.cell? ⟨c, 2, none⟩ = some vl := (hi2.blk.drew).cell 2
  clear h hF hx hf hi2
  go_enter Tryz.func74, Tryz.ntmps74
  go_wp2
  clear c0 f0 c1 f1
  refine wp_region_x [16] (S := fun w' => w'.cell? ⟨p, 6, none⟩ = some (.pointer (some ⟨c, 0, none⟩)) ∧ w'.cell? ⟨c, 2, none⟩ = some vl) (by kernel_rfl) ⟨hpc, hcc⟩ (fun hHeld => ?_)
  refine wpAnyX_take (i := 0) (v := ?_) rfl (by kernel_rfl) (by kernel_rfl) (by kernel_rfl) (by kernel_rfl) (fun _ _ _ h => h) (Or.inl ⟨by rfl, ?_⟩) hHeld ?_
  rotate_left
  · (intro w hSw; (try dsimp only at hSw); go_simp) <;> with_reducible rfl
  (try simp only [Act.put, List.setIfInBounds_toArray, List.set_cons_zero, List.set_cons_succ, List.getElem_toArray, List.getElem_cons_zero, List.getElem_cons_succ])
  refine wpAnyX_take (i := 1) (v := ?_) rfl (by kernel_rfl) (by kernel_rfl) (by kernel_rfl) (by kernel_rfl) (fun _ _ _ h => h) (Or.inl ⟨by rfl, ?_⟩) hHeld ?_
  rotate_left
  · (intro w hSw; (try dsimp only at hSw); go_simp) <;> with_reducible rfl
  (try simp only [Act.put, List.setIfInBounds_toArray, List.set_cons_zero, List.set_cons_succ, List.getElem_toArray, List.getElem_cons_zero, List.getElem_cons_succ])
  refine wpAnyX_take (i := 2) (v := ?_) rfl (by kernel_rfl) (by kernel_rfl) (by kernel_rfl) (by kernel_rfl) (fun _ _ _ h => h) (Or.inl ⟨by rfl, ?_⟩) hHeld ?_
  rotate_left
  · (intro w hSw; (try dsimp only at hSw); go_simp) <;> with_reducible rfl
  (try simp only [Act.put, List.setIfInBounds_toArray, List.set_cons_zero, List.set_cons_succ, List.getElem_toArray, List.getElem_cons_zero, List.getElem_cons_succ])
  refine wpAnyX_take (i := 3) (v := ?_) rfl (by kernel_rfl) (by kernel_rfl) (by kernel_rfl) (by kernel_rfl) (fun _ _ _ h => h) (Or.inl ⟨by rfl, ?_⟩) hHeld ?_
  rotate_left
  · (intro w hSw; (try dsimp only at hSw); go_simp) <;> with_reducible rfl
  (try simp only [Act.put, List.setIfInBounds_toArray, List.set_cons_zero, List.set_cons_succ, List.getElem_toArray, List.getElem_cons_zero, List.getElem_cons_succ])
  refine wpAnyX_take (i := 4) (v := ?_) rfl (by kernel_rfl) (by kernel_rfl) (by kernel_rfl) (by kernel_rfl) (fun _ _ _ h => h) (Or.inl ⟨by rfl, ?_⟩) hHeld ?_
  rotate_left
  · (intro w hSw; (try dsimp only at hSw); go_simp) <;> with_reducible rfl
  (try simp only [Act.put, List.setIfInBounds_toArray, List.set_cons_zero, List.set_cons_succ, List.getElem_toArray, List.getElem_cons_zero, List.getElem_cons_succ])
  refine wpAnyX_take (i := 5) (v := ?_) rfl (by kernel_rfl) (by kernel_rfl) (by kernel_rfl) (by kernel_rfl) (fun _ _ _ h => h) (Or.inl ⟨by rfl, ?_⟩) hHeld ?_
  rotate_left
  · (intro w hSw; (try dsimp only at hSw); go_simp) <;> with_reducible rfl
  (try simp only [Act.put, List.setIfInBounds_toArray, List.set_cons_zero, List.set_cons_succ, List.getElem_toArray, List.getElem_cons_zero, List.getElem_cons_succ])
  refine wpAnyX_take (i := 6) (v := ?_) rfl (by kernel_rfl) (by kernel_rfl) (by kernel_rfl) (by kernel_rfl) (fun _ _ _ h => h) (Or.inl ⟨by rfl, ?_⟩) hHeld ?_
  rotate_left
  · (intro w hSw; (try dsimp only at hSw); go_simp) <;> with_reducible rfl
  (try simp only [Act.put, List.setIfInBounds_toArray, List.set_cons_zero, List.set_cons_succ, List.getElem_toArray, List.getElem_cons_zero, List.getElem_cons_succ])
  refine wpAnyX_take (i := 7) (v := ?_) rfl (by kernel_rfl) (by kernel_rfl) (by kernel_rfl) (by kernel_rfl) (fun _ _ _ h => h) (Or.inl ⟨by rfl, ?_⟩) hHeld ?_
  rotate_left
  · (intro w hSw; (try dsimp only at hSw); go_simp) <;> with_reducible rfl
  (try simp only [Act.put, List.setIfInBounds_toArray, List.set_cons_zero, List.set_cons_succ, List.getElem_toArray, List.getElem_cons_zero, List.getElem_cons_succ])
  refine wpAnyX_take (i := 8) (v := ?_) rfl (by kernel_rfl) (by kernel_rfl) (by kernel_rfl) (by kernel_rfl) (fun _ _ _ h => h) (Or.inl ⟨by rfl, ?_⟩) hHeld ?_
  rotate_left
  · (intro w hSw; (try dsimp only at hSw); go_simp) <;> with_reducible rfl
  (try simp only [Act.put, List.setIfInBounds_toArray, List.set_cons_zero, List.set_cons_succ, List.getElem_toArray, List.getElem_cons_zero, List.getElem_cons_succ])
  refine wpAnyX_take (i := 9) (v := ?_) rfl (by kernel_rfl) (by kernel_rfl) (by kernel_rfl) (by kernel_rfl) (fun _ _ _ h => h) (Or.inl ⟨by rfl, ?_⟩) hHeld ?_
  rotate_left
  · (intro w hSw; (try dsimp only at hSw); go_simp) <;> with_reducible rfl
  (try simp only [Act.put, List.setIfInBounds_toArray, List.set_cons_zero, List.set_cons_succ, List.getElem_toArray, List.getElem_cons_zero, List.getElem_cons_succ])
  refine wpAnyX_take (i := 10) (v := ?_) rfl (by kernel_rfl) (by kernel_rfl) (by kernel_rfl) (by kernel_rfl) (fun _ _ _ h => h) (Or.inl ⟨by rfl, ?_⟩) hHeld ?_
  rotate_left
  · (intro w hSw; (try dsimp only at hSw); go_simp) <;> with_reducible rfl
  (try simp only [Act.put, List.setIfInBounds_toArray, List.set_cons_zero, List.set_cons_succ, List.getElem_toArray, List.getElem_cons_zero, List.getElem_cons_succ])
  refine wpAnyX_take (i := 11) (v := ?_) rfl (by kernel_rfl) (by kernel_rfl) (by kernel_rfl) (by kernel_rfl) (fun _ _ _ h => h) (Or.inl ⟨by rfl, ?_⟩) hHeld ?_
  rotate_left
  · (intro w hSw; (try dsimp only at hSw); go_simp) <;> with_reducible rfl
  (try simp only [Act.put, List.setIfInBounds_toArray, List.set_cons_zero, List.set_cons_succ, List.getElem_toArray, List.getElem_cons_zero, List.getElem_cons_succ])
  refine wpAnyX_ready (rs := [12]) (by kernel_rfl) (by simp) ?_
  refine AllReadyX.cons rfl (fun K hK => ?_) AllReadyX.nil
  go_simp
  have hHeld2 : (w.drew.alloc (.cells #[.int .i64 s] 3)).cell? ⟨p, 6, none⟩ = some (.pointer (some ⟨c, 0, none⟩)) ∧ (w.drew.alloc (.cells #[.int .i64 s] 3)).cell? ⟨c, 2, none⟩ = some vl := ⟨((H.out.1.blk.drew).alloc _).cell 6, ((H.out.2.1.blk.drew).alloc _).cell 2⟩
  refine hK.out _ _ (fun _ => hHeld2) ?_
  clear hK K
  (try simp only [Act.put, List.setIfInBounds_toArray, List.set_cons_zero, List.set_cons_succ, List.getElem_toArray, List.getElem_cons_zero, List.getElem_cons_succ])
  refine wpAnyX_ready (rs := [13]) (by kernel_rfl) (by simp) ?_
  refine AllReadyX.cons rfl (fun K hK => ?_) AllReadyX.nil
  refine step_app_int (by rfl) (.tmp 14) (.tmp 16) (by rfl) 0 vl o.left.length (nv o.left) (by rfl) (own_grew H.out.2.1.lft ((Chg.refl _ _).drew)) s (by rfl) (by omega) (Nat.zero_le _) ?_
  intro vl' w1 ho1 ha1
  obtain ⟨Al, cl, rfl, -⟩ := own_shape ho1
  have hB1 := (H.out.1.blk.drew).chg ha1.chg (fun e => by have := H.out.2.1.ll p e; have := H.out.1.lp; omega)
  have hB2 := (H.out.2.1.blk.drew).chg ha1.chg (fun e => by have := H.out.2.1.ll c e; have := H.out.2.1.lc; omega)
  have hHeld3 : w1.cell? ⟨p, 6, none⟩ = some (.pointer (some ⟨c, 0, none⟩)) ∧ w1.cell? ⟨c, 2, none⟩ = some vl := ⟨hB1.cell 6, hB2.cell 2⟩
  have fc := hB2.frozen 2
  have sc := hB2.lt
  have HA := Lib.hid (And.intro ho1 ha1)
  clear ho1 ha1 hB1 hB2
  refine hK.out _ _ (fun _ => hHeld3) ?_
  clear hK K
  (try simp only [Act.put, List.setIfInBounds_toArray, List.set_cons_zero, List.set_cons_succ, List.getElem_toArray, List.getElem_cons_zero, List.getElem_cons_succ])
  refine wpAnyX_ready (rs := [14]) (by kernel_rfl) (by simp) ?_
  refine AllReadyX.cons rfl (fun K hK => ?_) AllReadyX.nil
  go_simp
  refine hK.out _ _ (fun _ => hHeld3) ?_
  clear hK K
  (try simp only [Act.put, List.setIfInBounds_toArray, List.set_cons_zero, List.set_cons_succ, List.getElem_toArray, List.getElem_cons_zero, List.getElem_cons_succ])
  refine wpAnyX_take (i := 15) (v := ?_) rfl (by kernel_rfl) (by kernel_rfl) (by kernel_rfl) (by kernel_rfl) (fun _ _ _ h => h) (Or.inl ⟨by rfl, ?_⟩) hHeld3 ?_
  rotate_left
  · (intro w hSw; (try dsimp only at hSw); go_simp) <;> with_reducible rfl
  (try simp only [Act.put, List.setIfInBounds_toArray, List.set_cons_zero, List.set_cons_succ, List.getElem_toArray, List.getElem_cons_zero, List.getElem_cons_succ])
  refine wpAnyX_ready (rs := [16]) (by kernel_rfl) (by simp) ?_
  refine AllReadyX.cons rfl (fun K hK => ?_) AllReadyX.nil
  go_simp
  refine hK.out _ _ (fun h => by cases h) ?_
  clear hK K
  (try simp only [Act.put, List.setIfInBounds_toArray, List.set_cons_zero, List.set_cons_succ, List.getElem_toArray, List.getElem_cons_zero, List.getElem_cons_succ])
  refine wpAnyX_done (by kernel_rfl) ?_ _
  go_wp2
  refine bodyPost_end (results_none rfl _ _ _) rfl ⟨rfl, ?_⟩
  exact H.out.1.lpush H.out.2.1 ⟨Grew.then ((Chg.refl NoF w).drew) HA.out.2.chg, HA.out.2.at_⟩ HA.out.1 H.out.2.2

end Go.Proofs.YtjkkoogfaibhiaaGreatDoor

/- The pager: leave in all cases. -/
namespace Go.Proofs.YtjkkoogfaibhiaaGreatDoor
open Go.RowKit Go.Maps

/-- What an entry's sector becomes when the page leaves it. -/
def Gp.leave (X : Gp) (o : Cg) (s : Nat) : Gp := if s ≤ 1 then X else if o.fresh s then X.give o s else X.left o s
def Gp.canLeave (X : Gp) (o : Cg) (s : Nat) : Prop := 2 ≤ s → s < X.free.length ∧ (o.fresh s = true → X.free.getD s false = false)
theorem gleave_any (p s : Nat) (F : Nat → Prop) (X : Gp) (o : Cg) (w : World) (h : GS w p F X) (hx : X.op = some o) (hl : X.free.length ≤ 4096) (hs : X.canLeave o s) (hll : o.left.length ≤ 100000) :
    Calls Tryz.prog 74 #[.pointer (some ⟨p, 0, none⟩), .int .i64 s] w fun e' w' => e' = .returned (.tuple #[]) ∧ GTo w w' p F (X.leave o s) := by
  unfold Gp.leave
  by_cases h1 : s ≤ 1
  · rw [if_pos h1]
    refine (gleave_none p s w h1).mono ?_
    rintro e w1 ⟨rfl, rfl⟩
    exact ⟨rfl, h.to (Chg.refl _ _)⟩
  · rw [if_neg h1]
    have hc := hs (by omega)
    cases hf : o.fresh s with
    | true => exact gleave_fresh p s F X o w h hx (by omega) (by omega) hf hc.1 (hc.2 hf)
    | false => exact gleave_old p s F X o w h hx (by omega) (by omega) hf hll
theorem Gp.leave_op (X : Gp) (o : Cg) (s : Nat) (hx : X.op = some o) : ∃ o', (X.leave o s).op = some o' ∧ (X.leave o s).table = X.table ∧ (X.leave o s).D = X.D ∧ o'.touched = o.touched := by
  unfold Gp.leave
  split
  · exact ⟨o, hx, rfl, rfl, rfl⟩
  · split
    · exact ⟨_, rfl, rfl, rfl, rfl⟩
    · exact ⟨_, rfl, rfl, rfl, rfl⟩

/-- The change with a table page touched. -/
def Cg.tch (o : Cg) (k : Nat) : Cg := { o with touched := setB o.touched k true }
/-- A page is used no more. -/
def Gp.drop (X : Gp) (o : Cg) (i s : Nat) : Gp := { (X.touch o (i / X.row)).leave (o.tch (i / X.row)) s with table := X.table.set i 0 }

theorem gused_any (p : Nat) (i : Int) (F : Nat → Prop) (X : Gp) (w : World) (h : GS w p F X) (hl : X.table.length ≤ 1000000) :
    Calls Tryz.prog 71 #[.pointer (some ⟨p, 0, none⟩), .int .i64 i] w fun e w' => e = .returned (.bool (X.usedB i)) ∧ w = w' := by
  by_cases h0 : i < 0 ∨ X.table.length ≤ i
  · have := gused_no p i F X w h hl h0
    have e : X.usedB i = false := by
      unfold Gp.usedB
      rcases h0 with h0 | h0
      · rw [decide_eq_false (by omega)]; rfl
      · rw [List.getD_eq_getElem?_getD, List.getElem?_eq_none (by omega)]; simp
    rwa [e]
  · obtain ⟨k, rfl⟩ := Int.eq_ofNat_of_zero_le (show 0 ≤ i by omega)
    obtain ⟨s, hs⟩ : ∃ s, X.table[k]? = some s := ⟨_, List.getElem?_eq_getElem (by omega)⟩
    have := gused_in p k s F X w h hl hs
    have e : X.usedB (k : Int) = (s != 0) := by
      unfold Gp.usedB
      rw [decide_eq_true (by omega), Int.toNat_natCast, List.getD_eq_getElem?_getD, hs]; rfl
    rwa [e]

end Go.Proofs.YtjkkoogfaibhiaaGreatDoor

/- The pager: Write. -/
namespace Go.Proofs.YtjkkoogfaibhiaaGreatDoor
open Go.RowKit Go.Maps

section
variable {w w' : World} {L : Nat → Nat} {p d b ca : Nat} {X : Gp} {D' : Dk} {A : Option Addr} {vp vt : Value} {vo : Option Addr}
/-- The disk turns. -/
theorem GIn.disk (h : GIn w L p X d b A ca vp vt vo) (hd : DTo w w' d (fun j => L j = 2) D') : ∃ L', GIn w' L' p { X with D := D' } d b A ca vp vt vo ∧ Trn w w' L L' 2 := by
  obtain ⟨F', h1, h2, h3⟩ := hd
  obtain ⟨L', ht, hiff⟩ := Trn.more h2 h.lt (by omega) h3 h1.lt
  have h0 := tab_pos h.tab
  refine ⟨L', ⟨h.blk.chg ht.chg (by rw [h.lp]; omega), (ht.same p 1 (by omega) (by omega)).2 h.lp, ?_, h.pol.chg ht.chg fun j hj e => by have := h.lo j hj; omega, fun j hj => (ht.same j 3 (by omega) (by omega)).2 (h.lo j hj),
    own_lab h.pgs h.lg ht.chg (by omega), fun j hj => (ht.same j 4 (by omega) (by omega)).2 (h.lg j hj), own_lab h.tbl h.lb ht.chg (by omega), fun j hj => (ht.same j 5 (by omega) (by omega)).2 (h.lb j hj), h.opn.keep ht (by omega),
    lab_lt h.lt ht, lab_zero h.l0 ht (by omega) h0, tab_chg h.tab ht.chg (by rw [h.l0]; omega)⟩, ht⟩
  rw [show (fun j => L' j = 2) = F' from funext fun j => propext (hiff j)]
  exact h1
theorem GIn.flag (h : GIn w L p X d b A ca vp vt vo) (dn : Bool) : GIn (w.setCell ⟨p, 7, none⟩ (.bool dn)) L p { X with down := dn } d b A ca vp vt vo ∧ Trn w (w.setCell ⟨p, 7, none⟩ (.bool dn)) L L 1 := by
  have hc : Chg (fun j => L j = 1) w (w.setCell ⟨p, 7, none⟩ (.bool dn)) := (Chg.refl _ _).setCell (p := ⟨p, 7, none⟩) (fun _ => h.lp) _
  have ht := Trn.keep hc h.lt (by omega)
  have hb := h.blk.put 7 (.bool dn)
  exact ⟨h.re (X' := { X with down := dn }) ht h.lp ⟨rfl, rfl, rfl, rfl⟩ (by simpa using hb) (h.opn.keep ht (by omega)), ht⟩
end

theorem gnote_at (p : Nat) (e : Int) (cs : Array Value) (w : World) (h : Blk w p 84 cs) (h7 : cs[7]? = some (.bool false)) (he : (e == 20) = false) :
    Calls Tryz.prog 47 #[.pointer (some ⟨p, 0, none⟩), .int .i64 e] w fun e' w' => e' = .returned (.int .i64 e) ∧ w.setCell ⟨p, 7, none⟩ (.bool false) = w' := by
  have c7 := (h.cell 7).trans h7
  have f7 := h.frozen 7
  have s0 := h.lt
  clear h h7
  go_enter Tryz.func47, Tryz.ntmps47
  go_wp2
  go_ret
  exact ⟨rfl, rfl⟩

set_option maxHeartbeats 800000 in
theorem gwrite_none (p : Nat) (i : Int) (A : Option Addr) (n c : Nat) (F : Nat → Prop) (X : Gp) (w : World) (h : GS w p F X) (hr : X.rdy = 0) (hl : X.table.length ≤ 4096) (hu : X.usedB i = false) :
    Calls Tryz.prog 36 #[.pointer (some ⟨p, 0, none⟩), .int .i64 i, .slice A n c] w fun e' w' => e' = .returned (.int .i64 14) ∧ w = w' := by
  have hrd := gready_any p F X w h
  rw [hr] at hrd
  have hus := gused_any p i F X w h (by omega)
  rw [hu] at hus
  have H := Lib.hid (And.intro hrd hus)
  clear h hr hrd hu hus
  go_enter Tryz.func36, Tryz.ntmps36
  go_wp2_with (first
    | (go_at_call 43; (refine H.out.1.mono ?_); rintro e w1 ⟨rfl, rfl⟩)
    | (go_at_call 71; (refine H.out.2.mono ?_); rintro e w1 ⟨rfl, rfl⟩))
  go_ret
  exact ⟨rfl, rfl⟩

/-- A sector is written. -/
def Gp.put (X : Gp) (s : Nat) (bs : List Int) : Gp := { X with D := X.D.wr s bs }

set_option maxRecDepth 100000 in
set_option maxHeartbeats 3200000 in
theorem gwrite_fresh (p i s : Nat) (bs : List Int) (Ab : Option Addr) (cb : Nat) (F : Nat → Prop) (X : Gp) (o : Cg) (w : World) (h : GS w p F X) (hr : X.rdy = 0) (hx : X.op = some o) (hz : X.Sz) (hi : X.table[i]? = some s) (hs : s ≠ 0) (hf : o.fresh s = true) (hsn : s < X.D.n)
    (hd : X.D.down = false) (ha : X.D.armed = false) (hdn : X.down = false) (hb : bs.length = X.D.sz) (hA : Ab ≠ none) (hsl : Sl w 1 Ab bs.length (bv bs)) (hsF : ∀ a, Ab = some a → ¬ F a.block) :
    Calls Tryz.prog 36 #[.pointer (some ⟨p, 0, none⟩), .int .i64 i, .slice Ab bs.length cb] w fun e' w' => e' = .returned (.int .i64 0) ∧ GTo w w' p F (X.put s bs) := by
  have hrd := gready_any p F X w h
  rw [hr] at hrd
  have hus := gused_in p i s F X w h (by have := hz.tab.2; omega) hi
  rw [show (s != 0) = true from by simpa using hs] at hus
  have hsz := gsize_any p F X w h
  obtain ⟨L, d, b, A, ca, vp, vt, vo, h, hF⟩ := h
  obtain ⟨c0, f0, s0⟩ := h.blk.facts
  have ho := h.opn
  rw [hx] at ho
  obtain ⟨c, vw, M1, s1, vl, M2, s2, rfl, hi2⟩ := ho
  obtain ⟨g, ct, rfl, hgl, hlg, hce, hfe⟩ := h.entry hi
  have hil : i < X.table.length := (List.getElem?_eq_some_iff.1 hi).1
  have hdz := h.dsk.sml
  have u1 : (0 : Int) ≤ (i : Int) := by omega
  have u2 : (i : Int) < (X.table.length : Int) := by omega
  have hlk : ∀ u, Grew w u → (Instr.lookup 58 (.map (some M1)) (.int .i64 s) false).run Tryz.prog u = .ok (.bool true) u := fun u hg => by
    have := (hi2.fr.grew hg).look (t := 58) kInt Tryz.underlying3 Tryz.underlying58 (zBool u) (i := (s : Int)) (wfInt (by omega) (by omega))
    rwa [mB_getD, hf] at this
  have hp0 : w.drew.cell? ⟨p, 0, none⟩ = some (.pointer (some ⟨d, 0, none⟩)) := (h.blk.drew).cell 0
  have hp4 : w.drew.cell? ⟨p, 4, none⟩ = some (.slice (some ⟨g, 0, none⟩) X.table.length ct) := (h.blk.drew).cell 4
  have hp6 : w.drew.cell? ⟨p, 6, none⟩ = some (.pointer (some ⟨c, 0, none⟩)) := (h.blk.drew).cell 6
  have hc1 : w.drew.cell? ⟨c, 1, none⟩ = some (.map (some M1)) := (hi2.blk.drew).cell 1
  have hgi : w.drew.cell? ⟨g, i, none⟩ = some (.int .i64 s) := hce
  have hlk1 := hlk w.drew ((Chg.refl _ _).drew)
  have hdw : ∀ u, Grew w u → Calls Tryz.prog 75 #[.pointer (some ⟨d, 0, none⟩), .int .i64 (s : Int), .slice Ab bs.length cb] u fun e' w' => e' = .returned (.int .i64 0) ∧ DTo u w' d (fun j => L j = 2) (X.D.wr s bs) := fun u hg =>
    dwrite_ok d s bs Ab hA cb _ X.D u (h.dsk.grew hg) hd ha (by omega) (by omega) hb (hsl.grew hg)
  have Hb := Lib.hid hb
  have HI := Lib.hid hi
  have e3 : ((bs.length : Int) != (X.D.sz : Int)) = false := by simp [hb]
  have H := Lib.hid (And.intro hrd (And.intro hus (And.intro hsz (And.intro hdw (And.intro h (And.intro hF hdn))))))
  clear h hr hrd hus hsz hx hz hi hs hf hi2 hlk hdw hb hd ha hF c0 f0 hdn hce
  go_enter Tryz.func36, Tryz.ntmps36
  go_wp2_with (first
    | (go_at_call 43; (refine H.out.1.mono ?_); rintro e w1 ⟨rfl, rfl⟩)
    | (go_at_call 71; (refine H.out.2.1.mono ?_); rintro e w1 ⟨rfl, rfl⟩)
    | (go_at_call 26; (refine H.out.2.2.1.mono ?_); rintro e w1 ⟨rfl, rfl⟩))
  refine wp_region_held_drew (S := fun w' => w'.cell? ⟨p, 4, none⟩ = some (.slice (some ⟨g, 0, none⟩) X.table.length ct) ∧ w'.cell? ⟨p, 6, none⟩ = some (.pointer (some ⟨c, 0, none⟩)) ∧ w'.cell? ⟨c, 1, none⟩ = some (.map (some M1)) ∧ w'.cell? ⟨g, i, none⟩ = some (.int .i64 s) ∧ (Instr.lookup 58 (.map (some M1)) (.int .i64 s) false).run Tryz.prog w' = .ok (.bool true) w') (by kernel_rfl) ⟨hp4, hp6, hc1, hgi, hlk1⟩ (fun hHeld => ?_)
  refine wpAnyH_take (i := 0) (v := ?_) rfl (by kernel_rfl) (by kernel_rfl) (by kernel_rfl) (fun _ _ _ h => h) (Or.inl ⟨by rfl, ?_⟩) hHeld ?_
  rotate_left
  · (intro w hSw; (try dsimp only at hSw); go_simp) <;> with_reducible rfl
  (try simp only [Act.put, List.setIfInBounds_toArray, List.set_cons_zero, List.set_cons_succ, List.getElem_toArray, List.getElem_cons_zero, List.getElem_cons_succ])
  refine wpAnyH_take (i := 1) (v := ?_) rfl (by kernel_rfl) (by kernel_rfl) (by kernel_rfl) (fun _ _ _ h => h) (Or.inl ⟨by rfl, ?_⟩) hHeld ?_
  rotate_left
  · (intro w hSw; (try dsimp only at hSw); go_simp) <;> with_reducible rfl
  (try simp only [Act.put, List.setIfInBounds_toArray, List.set_cons_zero, List.set_cons_succ, List.getElem_toArray, List.getElem_cons_zero, List.getElem_cons_succ])
  refine wpAnyH_take (i := 2) (v := ?_) rfl (by kernel_rfl) (by kernel_rfl) (by kernel_rfl) (fun _ _ _ h => h) (Or.inl ⟨by rfl, ?_⟩) hHeld ?_
  rotate_left
  · (intro w hSw; (try dsimp only at hSw); go_simp) <;> with_reducible rfl
  (try simp only [Act.put, List.setIfInBounds_toArray, List.set_cons_zero, List.set_cons_succ, List.getElem_toArray, List.getElem_cons_zero, List.getElem_cons_succ])
  refine wpAnyH_take (i := 3) (v := ?_) rfl (by kernel_rfl) (by kernel_rfl) (by kernel_rfl) (fun _ _ _ h => h) (Or.inl ⟨by rfl, ?_⟩) hHeld ?_
  rotate_left
  · (intro w hSw; (try dsimp only at hSw); go_simp) <;> with_reducible rfl
  (try simp only [Act.put, List.setIfInBounds_toArray, List.set_cons_zero, List.set_cons_succ, List.getElem_toArray, List.getElem_cons_zero, List.getElem_cons_succ])
  refine wpAnyH_take (i := 4) (v := ?_) rfl (by kernel_rfl) (by kernel_rfl) (by kernel_rfl) (fun _ _ _ h => h) (Or.inl ⟨by rfl, ?_⟩) hHeld ?_
  rotate_left
  · (intro w hSw; (try dsimp only at hSw); go_simp) <;> with_reducible rfl
  (try simp only [Act.put, List.setIfInBounds_toArray, List.set_cons_zero, List.set_cons_succ, List.getElem_toArray, List.getElem_cons_zero, List.getElem_cons_succ])
  refine wpAnyH_take (i := 5) (v := ?_) rfl (by kernel_rfl) (by kernel_rfl) (by kernel_rfl) (fun _ _ _ h => h) (Or.inl ⟨by rfl, ?_⟩) hHeld ?_
  rotate_left
  · (intro w hSw; (try dsimp only at hSw); go_simp) <;> with_reducible rfl
  (try simp only [Act.put, List.setIfInBounds_toArray, List.set_cons_zero, List.set_cons_succ, List.getElem_toArray, List.getElem_cons_zero, List.getElem_cons_succ])
  refine wpAnyH_take (i := 6) (v := ?_) rfl (by kernel_rfl) (by kernel_rfl) (by kernel_rfl) (fun _ _ _ h => h) (Or.inl ⟨by rfl, ?_⟩) hHeld ?_
  rotate_left
  · (intro w hSw; (try dsimp only at hSw); go_simp) <;> with_reducible rfl
  (try simp only [Act.put, List.setIfInBounds_toArray, List.set_cons_zero, List.set_cons_succ, List.getElem_toArray, List.getElem_cons_zero, List.getElem_cons_succ])
  refine wpAnyH_take (i := 7) (v := ?_) rfl (by kernel_rfl) (by kernel_rfl) (by kernel_rfl) (fun _ _ _ h => h) (Or.inl ⟨by rfl, ?_⟩) hHeld ?_
  rotate_left
  · (intro w hSw; (try dsimp only at hSw); go_simp) <;> with_reducible rfl
  (try simp only [Act.put, List.setIfInBounds_toArray, List.set_cons_zero, List.set_cons_succ, List.getElem_toArray, List.getElem_cons_zero, List.getElem_cons_succ])
  refine wpAnyH_take (i := 8) (v := ?_) rfl (by kernel_rfl) (by kernel_rfl) (by kernel_rfl) (fun _ _ _ h => h) (Or.inl ⟨by rfl, ?_⟩) hHeld ?_
  rotate_left
  · (intro w hSw; (try dsimp only at hSw); go_simp) <;> with_reducible rfl
  (try simp only [Act.put, List.setIfInBounds_toArray, List.set_cons_zero, List.set_cons_succ, List.getElem_toArray, List.getElem_cons_zero, List.getElem_cons_succ])
  refine wpAnyH_take (i := 9) (v := ?_) rfl (by kernel_rfl) (by kernel_rfl) (by kernel_rfl) (fun _ _ _ h => h) (Or.inl ⟨by rfl, ?_⟩) hHeld ?_
  rotate_left
  · (intro w hSw; (try dsimp only at hSw); go_simp) <;> with_reducible rfl
  (try simp only [Act.put, List.setIfInBounds_toArray, List.set_cons_zero, List.set_cons_succ, List.getElem_toArray, List.getElem_cons_zero, List.getElem_cons_succ])
  refine wpAnyH_take (i := 10) (v := ?_) rfl (by kernel_rfl) (by kernel_rfl) (by kernel_rfl) (fun _ _ _ h => h) (Or.inl ⟨by rfl, ?_⟩) hHeld ?_
  rotate_left
  · (intro w hSw; (try dsimp only at hSw); go_simp) <;> with_reducible rfl
  (try simp only [Act.put, List.setIfInBounds_toArray, List.set_cons_zero, List.set_cons_succ, List.getElem_toArray, List.getElem_cons_zero, List.getElem_cons_succ])
  refine wpAnyH_take (i := 11) (v := ?_) rfl (by kernel_rfl) (by kernel_rfl) (by kernel_rfl) (fun _ _ _ h => h) (Or.inl ⟨by rfl, ?_⟩) hHeld ?_
  rotate_left
  · (intro w hSw; (try dsimp only at hSw); go_simp) <;> with_reducible rfl
  (try simp only [Act.put, List.setIfInBounds_toArray, List.set_cons_zero, List.set_cons_succ, List.getElem_toArray, List.getElem_cons_zero, List.getElem_cons_succ])
  refine wpAnyH_take (i := 12) (v := ?_) rfl (by kernel_rfl) (by kernel_rfl) (by kernel_rfl) (fun _ _ _ h => h) (Or.inl ⟨by rfl, ?_⟩) hHeld ?_
  rotate_left
  · (intro w hSw; (try dsimp only at hSw); go_simp) <;> with_reducible rfl
  (try simp only [Act.put, List.setIfInBounds_toArray, List.set_cons_zero, List.set_cons_succ, List.getElem_toArray, List.getElem_cons_zero, List.getElem_cons_succ])
  refine wpAnyH_take (i := 13) (v := ?_) rfl (by kernel_rfl) (by kernel_rfl) (by kernel_rfl) (fun _ _ _ h => h) (Or.inl ⟨by rfl, ?_⟩) hHeld ?_
  rotate_left
  · (intro w hSw; (try dsimp only at hSw); go_simp) <;> with_reducible rfl
  (try simp only [Act.put, List.setIfInBounds_toArray, List.set_cons_zero, List.set_cons_succ, List.getElem_toArray, List.getElem_cons_zero, List.getElem_cons_succ])
  refine wpAnyH_take (i := 14) (v := ?_) rfl (by kernel_rfl) (by kernel_rfl) (by kernel_rfl) (fun _ _ _ h => h) (Or.inl ⟨by rfl, ?_⟩) hHeld ?_
  rotate_left
  · (intro w hSw; (try dsimp only at hSw); go_simp) <;> with_reducible rfl
  (try simp only [Act.put, List.setIfInBounds_toArray, List.set_cons_zero, List.set_cons_succ, List.getElem_toArray, List.getElem_cons_zero, List.getElem_cons_succ])
  refine wpAnyH_ready (rs := [15]) (by kernel_rfl) (by simp) ?_
  refine AllReadyH.cons rfl (fun K hK => ?_) AllReadyH.nil
  go_simp
  refine hK.out _ _ hHeld (fun _ => ?_)
  clear hK K
  (try simp only [Act.put, List.setIfInBounds_toArray, List.set_cons_zero, List.set_cons_succ, List.getElem_toArray, List.getElem_cons_zero, List.getElem_cons_succ])
  refine wpAnyH_done (by kernel_rfl) ?_ _
  clear hHeld
  go_wp2
  refine wp_region_held_drew (S := fun w' => w'.cell? ⟨p, 0, none⟩ = some (.pointer (some ⟨d, 0, none⟩)) ∧ w'.cell? ⟨p, 4, none⟩ = some (.slice (some ⟨g, 0, none⟩) X.table.length ct) ∧ w'.cell? ⟨g, i, none⟩ = some (.int .i64 s)) (by kernel_rfl) ⟨hp0, hp4, hgi⟩ (fun hHeld => ?_)
  refine wpAnyH_take (i := 0) (v := ?_) rfl (by kernel_rfl) (by kernel_rfl) (by kernel_rfl) (fun _ _ _ h => h) (Or.inl ⟨by rfl, ?_⟩) hHeld ?_
  rotate_left
  · (intro w hSw; (try dsimp only at hSw); go_simp) <;> with_reducible rfl
  (try simp only [Act.put, List.setIfInBounds_toArray, List.set_cons_zero, List.set_cons_succ, List.getElem_toArray, List.getElem_cons_zero, List.getElem_cons_succ])
  refine wpAnyH_take (i := 1) (v := ?_) rfl (by kernel_rfl) (by kernel_rfl) (by kernel_rfl) (fun _ _ _ h => h) (Or.inl ⟨by rfl, ?_⟩) hHeld ?_
  rotate_left
  · (intro w hSw; (try dsimp only at hSw); go_simp) <;> with_reducible rfl
  (try simp only [Act.put, List.setIfInBounds_toArray, List.set_cons_zero, List.set_cons_succ, List.getElem_toArray, List.getElem_cons_zero, List.getElem_cons_succ])
  refine wpAnyH_take (i := 2) (v := ?_) rfl (by kernel_rfl) (by kernel_rfl) (by kernel_rfl) (fun _ _ _ h => h) (Or.inl ⟨by rfl, ?_⟩) hHeld ?_
  rotate_left
  · (intro w hSw; (try dsimp only at hSw); go_simp) <;> with_reducible rfl
  (try simp only [Act.put, List.setIfInBounds_toArray, List.set_cons_zero, List.set_cons_succ, List.getElem_toArray, List.getElem_cons_zero, List.getElem_cons_succ])
  refine wpAnyH_take (i := 3) (v := ?_) rfl (by kernel_rfl) (by kernel_rfl) (by kernel_rfl) (fun _ _ _ h => h) (Or.inl ⟨by rfl, ?_⟩) hHeld ?_
  rotate_left
  · (intro w hSw; (try dsimp only at hSw); go_simp) <;> with_reducible rfl
  (try simp only [Act.put, List.setIfInBounds_toArray, List.set_cons_zero, List.set_cons_succ, List.getElem_toArray, List.getElem_cons_zero, List.getElem_cons_succ])
  refine wpAnyH_take (i := 4) (v := ?_) rfl (by kernel_rfl) (by kernel_rfl) (by kernel_rfl) (fun _ _ _ h => h) (Or.inl ⟨by rfl, ?_⟩) hHeld ?_
  rotate_left
  · (intro w hSw; (try dsimp only at hSw); go_simp) <;> with_reducible rfl
  (try simp only [Act.put, List.setIfInBounds_toArray, List.set_cons_zero, List.set_cons_succ, List.getElem_toArray, List.getElem_cons_zero, List.getElem_cons_succ])
  refine wpAnyH_take (i := 5) (v := ?_) rfl (by kernel_rfl) (by kernel_rfl) (by kernel_rfl) (fun _ _ _ h => h) (Or.inl ⟨by rfl, ?_⟩) hHeld ?_
  rotate_left
  · (intro w hSw; (try dsimp only at hSw); go_simp) <;> with_reducible rfl
  (try simp only [Act.put, List.setIfInBounds_toArray, List.set_cons_zero, List.set_cons_succ, List.getElem_toArray, List.getElem_cons_zero, List.getElem_cons_succ])
  refine wpAnyH_take (i := 6) (v := ?_) rfl (by kernel_rfl) (by kernel_rfl) (by kernel_rfl) (fun _ _ _ h => h) (Or.inl ⟨by rfl, ?_⟩) hHeld ?_
  rotate_left
  · (intro w hSw; (try dsimp only at hSw); go_simp) <;> with_reducible rfl
  (try simp only [Act.put, List.setIfInBounds_toArray, List.set_cons_zero, List.set_cons_succ, List.getElem_toArray, List.getElem_cons_zero, List.getElem_cons_succ])
  refine wpAnyH_take (i := 7) (v := ?_) rfl (by kernel_rfl) (by kernel_rfl) (by kernel_rfl) (fun _ _ _ h => h) (Or.inl ⟨by rfl, ?_⟩) hHeld ?_
  rotate_left
  · (intro w hSw; (try dsimp only at hSw); go_simp) <;> with_reducible rfl
  (try simp only [Act.put, List.setIfInBounds_toArray, List.set_cons_zero, List.set_cons_succ, List.getElem_toArray, List.getElem_cons_zero, List.getElem_cons_succ])
  refine wpAnyH_take (i := 8) (v := ?_) rfl (by kernel_rfl) (by kernel_rfl) (by kernel_rfl) (fun _ _ _ h => h) (Or.inl ⟨by rfl, ?_⟩) hHeld ?_
  rotate_left
  · (intro w hSw; (try dsimp only at hSw); go_simp) <;> with_reducible rfl
  (try simp only [Act.put, List.setIfInBounds_toArray, List.set_cons_zero, List.set_cons_succ, List.getElem_toArray, List.getElem_cons_zero, List.getElem_cons_succ])
  refine wpAnyH_take (i := 9) (v := ?_) rfl (by kernel_rfl) (by kernel_rfl) (by kernel_rfl) (fun _ _ _ h => h) (Or.inl ⟨by rfl, ?_⟩) hHeld ?_
  rotate_left
  · (intro w hSw; (try dsimp only at hSw); go_simp) <;> with_reducible rfl
  (try simp only [Act.put, List.setIfInBounds_toArray, List.set_cons_zero, List.set_cons_succ, List.getElem_toArray, List.getElem_cons_zero, List.getElem_cons_succ])
  refine wpAnyH_take (i := 10) (v := ?_) rfl (by kernel_rfl) (by kernel_rfl) (by kernel_rfl) (fun _ _ _ h => h) (Or.inl ⟨by rfl, ?_⟩) hHeld ?_
  rotate_left
  · (intro w hSw; (try dsimp only at hSw); go_simp) <;> with_reducible rfl
  (try simp only [Act.put, List.setIfInBounds_toArray, List.set_cons_zero, List.set_cons_succ, List.getElem_toArray, List.getElem_cons_zero, List.getElem_cons_succ])
  refine wpAnyH_take (i := 11) (v := ?_) rfl (by kernel_rfl) (by kernel_rfl) (by kernel_rfl) (fun _ _ _ h => h) (Or.inl ⟨by rfl, ?_⟩) hHeld ?_
  rotate_left
  · (intro w hSw; (try dsimp only at hSw); go_simp) <;> with_reducible rfl
  (try simp only [Act.put, List.setIfInBounds_toArray, List.set_cons_zero, List.set_cons_succ, List.getElem_toArray, List.getElem_cons_zero, List.getElem_cons_succ])
  refine wpAnyH_take (i := 12) (v := ?_) rfl (by kernel_rfl) (by kernel_rfl) (by kernel_rfl) (fun _ _ _ h => h) (Or.inl ⟨by rfl, ?_⟩) hHeld ?_
  rotate_left
  · (intro w hSw; (try dsimp only at hSw); go_simp) <;> with_reducible rfl
  (try simp only [Act.put, List.setIfInBounds_toArray, List.set_cons_zero, List.set_cons_succ, List.getElem_toArray, List.getElem_cons_zero, List.getElem_cons_succ])
  refine wpAnyH_ready (rs := [13]) (by kernel_rfl) (by simp) ?_
  refine AllReadyH.cons rfl (fun K hK => ?_) AllReadyH.nil
  go_simp
  refine (H.out.2.2.2.1 _ (((Chg.refl _ _).drew).drew)).mono ?_
  rintro e w3 ⟨rfl, h3⟩
  obtain ⟨L3, hG3, ht3⟩ := (H.out.2.2.2.2.1.grew (((Chg.refl _ _).drew).drew)).disk h3
  obtain ⟨g3, ct3, e3', hgl3, hlg3, hce3, hfe3⟩ := hG3.entry (i := i) (s := s) HI.out
  cases e3'
  have hb3 := hG3.blk
  have hpg : p ≠ g := fun e => by have := hG3.lp; rw [e] at this; omega
  have hHeld3 : w3.cell? ⟨p, 0, none⟩ = some (.pointer (some ⟨d, 0, none⟩)) ∧ w3.cell? ⟨p, 4, none⟩ = some (.slice (some ⟨g, 0, none⟩) X.table.length ct) ∧ w3.cell? ⟨g, i, none⟩ = some (.int .i64 s) := ⟨hb3.cell 0, hb3.cell 4, hce3⟩
  have HG := Lib.hid (And.intro hG3 (And.intro ht3 hce3))
  clear hb3 hG3 ht3 h3 hgl3 hlg3 hce3 hfe3
  refine hK.out _ _ hHeld3 (fun _ => ?_)
  clear hK K
  (try simp only [Act.put, List.setIfInBounds_toArray, List.set_cons_zero, List.set_cons_succ, List.getElem_toArray, List.getElem_cons_zero, List.getElem_cons_succ])
  refine wpAnyH_ready (rs := [14]) (by kernel_rfl) (by simp) ?_
  refine AllReadyH.cons rfl (fun K hK => ?_) AllReadyH.nil
  go_simp
  refine (gnote_at p 0 _ _ HG.out.1.blk (by show _ = some (Value.bool false); rw [← H.out.2.2.2.2.2.2]; rfl) rfl).mono ?_
  rintro e w4 ⟨rfl, hw4⟩
  have hHeld4 : w4.cell? ⟨p, 0, none⟩ = some (.pointer (some ⟨d, 0, none⟩)) ∧ w4.cell? ⟨p, 4, none⟩ = some (.slice (some ⟨g, 0, none⟩) X.table.length ct) ∧ w4.cell? ⟨g, i, none⟩ = some (.int .i64 s) := by
    subst hw4
    exact ⟨(HG.out.1.blk.put 7 (.bool false)).cell 0, (HG.out.1.blk.put 7 (.bool false)).cell 4, by rw [World.cell?_setCell_far _ _ _ _ hpg]; exact HG.out.2.2⟩
  have HW4 := Lib.hid hw4
  clear hw4
  refine hK.out _ _ hHeld4 (fun _ => ?_)
  clear hK K
  (try simp only [Act.put, List.setIfInBounds_toArray, List.set_cons_zero, List.set_cons_succ, List.getElem_toArray, List.getElem_cons_zero, List.getElem_cons_succ])
  refine wpAnyH_ready (rs := [15]) (by kernel_rfl) (by simp) ?_
  refine AllReadyH.cons rfl (fun K hK => ?_) AllReadyH.nil
  go_simp
  refine hK.out _ _ hHeld4 (fun _ => ?_)
  clear hK K
  (try simp only [Act.put, List.setIfInBounds_toArray, List.set_cons_zero, List.set_cons_succ, List.getElem_toArray, List.getElem_cons_zero, List.getElem_cons_succ])
  refine wpAnyH_done (by kernel_rfl) ?_ _
  clear hHeld hHeld3 hHeld4
  go_wp2
  go_ret
  refine ⟨rfl, ?_⟩
  have hfl := HG.out.1.flag false
  rw [HW4.out] at hfl
  refine To.ahead (w' := w.drew.drew) (((Chg.refl _ _).drew).drew) ?_
  have hgo := hfl.1.toS (K := fun m => m = 2 ∨ m = 1) ((HG.out.2.1.s H.out.2.2.2.2.1.lt (.inl rfl) (by omega)).trans (hfl.2.s HG.out.1.lt (.inr rfl) (by omega))) (by omega) H.out.2.2.2.2.2.1
  have e : ({ X.put s bs with down := false } : Gp) = X.put s bs := by unfold Gp.put; rw [← H.out.2.2.2.2.2.2]
  rw [← e]
  exact hgo

end Go.Proofs.YtjkkoogfaibhiaaGreatDoor

/- The pager: Write of a page that has no sector of its own yet. -/
namespace Go.Proofs.YtjkkoogfaibhiaaGreatDoor
open Go.RowKit Go.Maps
open Go.ChangeMaps (setBlock)

theorem setBlock_turns (w : World) (b : Nat) (o : Obj) : Chg (fun j => j = b) w (setBlock w b o) :=
  ⟨rfl, rfl, rfl, by simp [setBlock], fun k hk hne => by simp [setBlock, Array.getElem?_setIfInBounds, Ne.symm hne]⟩

section
variable {w w' : World} {L : Nat → Nat} {p d b ca c M1 s1 M2 s2 j : Nat} {X : Gp} {o : Cg} {A : Option Addr} {vp vt vw vl : Value}
/-- A sector becomes fresh. -/
theorem GIn.frput (h : GIn w L p X d b A ca vp vt (some ⟨c, 0, none⟩)) (hi : ChIn w L o c vw M1 s1 vl M2 s2) (hj : j < 4096) (hf : o.fresh j = false) :
    ∃ (v0 : Value) (st : Nat) (o1 o2 : Obj), (Instr.mapEntry 58 (.map (some M1)) (.int .i64 j)).run Tryz.prog w = .ok (.tuple #[v0, goInt st]) (setBlock w M1 o1) ∧
      (Instr.entryStore 58 (.map (some M1)) (goInt st) (.bool true)).run Tryz.prog (setBlock w M1 o1) = .ok () (setBlock (setBlock w M1 o1) M1 o2) ∧
      GIn (setBlock (setBlock w M1 o1) M1 o2) L p { X with op := some { o with fresh := setB o.fresh j true } } d b A ca vp vt (some ⟨c, 0, none⟩) ∧ Trn w (setBlock (setBlock w M1 o1) M1 o2) L L 8 := by
  have hs1 : s1 < maxLen := by have := hi.n1.1; have := cntN_le o.fresh 4096; simp only [maxLen]; omega
  obtain ⟨v0, st, o1, hr1, hr2⟩ := hi.fr.entry kInt Tryz.underlying3 Tryz.underlying58 hs1 zBool (i := (j : Int)) (wfInt (by omega) (by omega))
  obtain ⟨o2, hr3, hm⟩ := hr2 (setBlock w M1 o1) (.bool true) (by have := hi.fr.lt; simp [setBlock, this])
  have hc : Chg (fun j => L j = 8) w (setBlock (setBlock w M1 o1) M1 o2) := (Chg.trans (setBlock_turns w M1 o1) (setBlock_turns _ M1 o2) fun _ _ e => e).mono fun i _ e => e ▸ hi.lf
  have ht := Trn.keep hc h.lt (by omega)
  refine ⟨v0, st, o1, o2, hr1, hr3, h.opn_ (o' := { o with fresh := setB o.fresh j true }) ht (by omega) ⟨c, vw, M1, _, vl, M2, s2, rfl, ⟨hi.blk.chg hc (by rw [hi.lc]; omega), hi.lc, own_lab hi.was hi.lw hc (by omega), hi.lw, by rw [mB_put] at hm; exact hm, hi.lf, own_lab hi.lft hi.ll hc (by omega), hi.ll, hi.tch.chg hc (by rw [hi.lt]; omega), hi.lt, ⟨?_, fun k hk => ?_⟩, hi.n2⟩⟩, ht⟩
  · rw [mB_nat, hf]
    have := cntN_yes o.fresh hj hf
    simp [this, hi.n1.1]
  · by_cases e : k = j
    · omega
    · exact hi.n1.2 k (by simpa [setB, e] using hk)
end

/-- From F in w to F' in w'. -/
structure Rch (F F' : Nat → Prop) (w w' : World) : Prop where
  chg : Chg F w w'
  new : ∀ j, F' j → F j ∨ w.heap.size ≤ j
theorem Rch.trans {F F1 F2 : Nat → Prop} {w w1 w2 : World} (h : Rch F F1 w w1) (k : Rch F1 F2 w1 w2) : Rch F F2 w w2 :=
  ⟨Chg.trans h.chg k.chg fun i hi hf => (h.new i hf).resolve_right (by omega), fun j hj => (k.new j hj).elim (h.new j) fun e => .inr (Nat.le_trans h.chg.size e)⟩
theorem Rch.grew {F : Nat → Prop} {w w' : World} (h : Grew w w') : Rch F F w w' := ⟨h.chg, fun _ e => .inl e⟩
theorem TrnS.rch {w w' : World} {L L' : Nat → Nat} {K F : Nat → Prop} (ht : TrnS w w' L L' K) (hk : ¬ K 0) (hF : ∀ j, F j ↔ L j ≠ 0) : Rch F (fun j => L' j ≠ 0) w w' :=
  ⟨ht.chg.mono fun i _ e => (hF i).2 (fun e0 => hk (e0 ▸ e)), fun j hj => by
    by_cases e : K (L' j)
    · exact (ht.new j e).imp (fun e1 => (hF j).2 (fun e0 => hk (e0 ▸ e1))) id
    · exact .inl ((hF j).2 (by have := (ht.same j (L' j) hj e).1 rfl; omega))⟩
/-- The change, when a page gets a sector. -/
def Cg.fill (o : Cg) (k s j : Nat) : Cg := { was := o.was, fresh := setB o.fresh j true, left := if s ≤ 1 then o.left else o.left ++ [s], touched := setB o.touched k true }
/-- A page gets a sector, with these bytes. -/
def Gp.fill (X : Gp) (o : Cg) (i s j : Nat) (bs : List Int) : Gp := { X with D := X.D.wr j bs, table := X.table.set i j, free := trn X.free j, op := some (o.fill (i / X.row) s j) }
/-- The change, when the old sector is left. -/
def Cg.lft (o : Cg) (k s : Nat) : Cg := { o with touched := setB o.touched k true, left := if s ≤ 1 then o.left else o.left ++ [s] }
theorem leave_lft (p s k j : Nat) (F : Nat → Prop) (X : Gp) (o : Cg) (w : World) (h : GS w p F { X.touch o k with free := trn X.free j }) (hl : X.free.length ≤ 4096) (hs : s ≤ 1 ∨ s < X.free.length) (hf : o.fresh s = false) (hll : o.left.length ≤ 100000) :
    Calls Tryz.prog 74 #[.pointer (some ⟨p, 0, none⟩), .int .i64 s] w fun e' w' => e' = .returned (.tuple #[]) ∧ GTo w w' p F { X with free := trn X.free j, op := some (o.lft k s) } := by
  have := gleave_any p s F { X.touch o k with free := trn X.free j } (o.tch k) w h rfl (by simp only [trn, List.length_set]; exact hl) (fun h2 => ⟨by simp only [trn, List.length_set]; omega, fun e => by rw [show (o.tch k).fresh s = o.fresh s from rfl, hf] at e; cases e⟩) hll
  have e : ({ X.touch o k with free := trn X.free j } : Gp).leave (o.tch k) s = { X with free := trn X.free j, op := some (o.lft k s) } := by
    unfold Gp.leave Cg.lft Cg.tch
    by_cases h1 : s ≤ 1
    · rw [if_pos h1, if_pos h1]; rfl
    · rw [if_neg h1, if_neg h1]
      simp only [hf]
      rfl
  rwa [e] at this

set_option maxRecDepth 100000 in
set_option maxHeartbeats 6400000 in
theorem gwrite_new (p i s j : Nat) (bs : List Int) (Ab : Option Addr) (cb : Nat) (F : Nat → Prop) (X : Gp) (o : Cg) (w : World) (h : GS w p F X) (hr : X.rdy = 0) (hx : X.op = some o) (hz : X.Sz) (hi : X.table[i]? = some s) (hs : s ≠ 0) (hf : o.fresh s = false) (hsn : s ≤ 1 ∨ s < X.D.n)
    (hj : nxt X.free 0 = some j) (hfj : o.fresh j = false) (hll : o.left.length ≤ 100000) (hm : (o.more (i / X.row) 1 : Nat) ≤ X.room)
    (hd : X.D.down = false) (ha : X.D.armed = false) (hdn : X.down = false) (hb : bs.length = X.D.sz) (hA : Ab ≠ none) (hsl : Sl w 1 Ab bs.length (bv bs)) (hsF : ∀ a, Ab = some a → ¬ F a.block) :
    Calls Tryz.prog 36 #[.pointer (some ⟨p, 0, none⟩), .int .i64 i, .slice Ab bs.length cb] w fun e' w' => e' = .returned (.int .i64 0) ∧ GTo w w' p F (X.fill o i s j bs) := by
  have hrd := gready_any p F X w h
  rw [hr] at hrd
  have hus := gused_in p i s F X w h (by have := hz.tab.2; omega) hi
  rw [show (s != 0) = true from by simpa using hs] at hus
  have hsz := gsize_any p F X w h
  have hil : i < X.table.length := (List.getElem?_eq_some_iff.1 hi).1
  obtain ⟨k, hk⟩ : ∃ k, i / X.row = k := ⟨_, rfl⟩
  have hjl : j < X.free.length ∧ X.free.getD j false = true := by have := (nxt_some.1 hj); exact ⟨this.2.1, this.2.2.1⟩
  have HFL := Lib.hid h
  obtain ⟨L, d, b, A, ca, vp, vt, vo, h, hF⟩ := h
  obtain ⟨c0, f0, s0⟩ := h.blk.facts
  have ho := h.opn
  rw [hx] at ho
  obtain ⟨c, vw, M1, s1, vl, M2, s2, rfl, hi2⟩ := ho
  obtain ⟨g, ct, rfl, hgl, hlg, hce, hfe⟩ := h.entry hi
  have hdz := h.dsk.sml
  have htf := fun u (hu : Grew w u) => gtouch_ok p i k 1 F X o u (HFL.out.grew hu) hx (by have := hz.free; omega) (by have := hz.row; omega) hk (hk ▸ hz.k64 hil) (by have := hz.tab.2; omega) (by omega) (by rw [← hk]; exact hm)
  have hlv := fun F1 w1 (h1 : GS w1 p F1 { X.touch o k with free := trn X.free j }) => leave_lft p s k j F1 X o w1 h1 (by have := hz.free; omega) (by have := hz.free; omega) hf hll
  have u1 : (0 : Int) ≤ (i : Int) := by omega
  have u2 : (i : Int) < (X.table.length : Int) := by omega
  have hlk : (Instr.lookup 58 (.map (some M1)) (.int .i64 s) false).run Tryz.prog w.drew = .ok (.bool false) w.drew := by
    have := (hi2.fr.grew ((Chg.refl _ w).drew)).look (t := 58) kInt Tryz.underlying3 Tryz.underlying58 (zBool w.drew) (i := (s : Int)) (wfInt (by omega) (by have := hz.free; omega))
    rwa [mB_getD, hf] at this
  have hp4 : w.drew.cell? ⟨p, 4, none⟩ = some (.slice (some ⟨g, 0, none⟩) X.table.length ct) := (h.blk.drew).cell 4
  have hp6 : w.drew.cell? ⟨p, 6, none⟩ = some (.pointer (some ⟨c, 0, none⟩)) := (h.blk.drew).cell 6
  have hc1 : w.drew.cell? ⟨c, 1, none⟩ = some (.map (some M1)) := (hi2.blk.drew).cell 1
  have hgi : w.drew.cell? ⟨g, i, none⟩ = some (.int .i64 s) := hce
  have e3 : ((bs.length : Int) != (X.D.sz : Int)) = false := by simp [hb]
  have hj4 : j < 4096 := by have := hz.free; omega
  have hxl : X.free.length ≤ 65536 := by have := hz.free; omega
  have H := Lib.hid (And.intro hrd (And.intro hus (And.intro hsz (And.intro htf (And.intro hlv (And.intro hi hj))))))
  have H2 := Lib.hid (And.intro hfj (And.intro hd (And.intro ha (And.intro hdn (And.intro hb (And.intro hsl (And.intro hsF (And.intro hF (And.intro hz.free (And.intro hk hjl))))))))))
  have hsl' := hsl
  have hFs := hF
  clear h hr hrd hus hsz hx hz hi hs hf hi2 htf hlv hb hd ha hF c0 f0 hdn hce hj hfj hll hm hsl hsF hsl' hFs hk hjl
  go_enter Tryz.func36, Tryz.ntmps36
  go_wp2_with (first
    | (go_at_call 43; (refine H.out.1.mono ?_); rintro e w1 ⟨rfl, rfl⟩)
    | (go_at_call 71; (refine H.out.2.1.mono ?_); rintro e w1 ⟨rfl, rfl⟩)
    | (go_at_call 26; (refine H.out.2.2.1.mono ?_); rintro e w1 ⟨rfl, rfl⟩))
  refine wp_region_held_drew (S := fun w' => w'.cell? ⟨p, 4, none⟩ = some (.slice (some ⟨g, 0, none⟩) X.table.length ct) ∧ w'.cell? ⟨p, 6, none⟩ = some (.pointer (some ⟨c, 0, none⟩)) ∧ w'.cell? ⟨c, 1, none⟩ = some (.map (some M1)) ∧ w'.cell? ⟨g, i, none⟩ = some (.int .i64 s) ∧ (Instr.lookup 58 (.map (some M1)) (.int .i64 s) false).run Tryz.prog w' = .ok (.bool false) w') (by kernel_rfl) ⟨hp4, hp6, hc1, hgi, hlk⟩ (fun hHeld => ?_)
  refine wpAnyH_take (i := 0) (v := ?_) rfl (by kernel_rfl) (by kernel_rfl) (by kernel_rfl) (fun _ _ _ h => h) (Or.inl ⟨by rfl, ?_⟩) hHeld ?_
  rotate_left
  · (intro w hSw; (try dsimp only at hSw); go_simp) <;> with_reducible rfl
  (try simp only [Act.put, List.setIfInBounds_toArray, List.set_cons_zero, List.set_cons_succ, List.getElem_toArray, List.getElem_cons_zero, List.getElem_cons_succ])
  refine wpAnyH_take (i := 1) (v := ?_) rfl (by kernel_rfl) (by kernel_rfl) (by kernel_rfl) (fun _ _ _ h => h) (Or.inl ⟨by rfl, ?_⟩) hHeld ?_
  rotate_left
  · (intro w hSw; (try dsimp only at hSw); go_simp) <;> with_reducible rfl
  (try simp only [Act.put, List.setIfInBounds_toArray, List.set_cons_zero, List.set_cons_succ, List.getElem_toArray, List.getElem_cons_zero, List.getElem_cons_succ])
  refine wpAnyH_take (i := 2) (v := ?_) rfl (by kernel_rfl) (by kernel_rfl) (by kernel_rfl) (fun _ _ _ h => h) (Or.inl ⟨by rfl, ?_⟩) hHeld ?_
  rotate_left
  · (intro w hSw; (try dsimp only at hSw); go_simp) <;> with_reducible rfl
  (try simp only [Act.put, List.setIfInBounds_toArray, List.set_cons_zero, List.set_cons_succ, List.getElem_toArray, List.getElem_cons_zero, List.getElem_cons_succ])
  refine wpAnyH_take (i := 3) (v := ?_) rfl (by kernel_rfl) (by kernel_rfl) (by kernel_rfl) (fun _ _ _ h => h) (Or.inl ⟨by rfl, ?_⟩) hHeld ?_
  rotate_left
  · (intro w hSw; (try dsimp only at hSw); go_simp) <;> with_reducible rfl
  (try simp only [Act.put, List.setIfInBounds_toArray, List.set_cons_zero, List.set_cons_succ, List.getElem_toArray, List.getElem_cons_zero, List.getElem_cons_succ])
  refine wpAnyH_take (i := 4) (v := ?_) rfl (by kernel_rfl) (by kernel_rfl) (by kernel_rfl) (fun _ _ _ h => h) (Or.inl ⟨by rfl, ?_⟩) hHeld ?_
  rotate_left
  · (intro w hSw; (try dsimp only at hSw); go_simp) <;> with_reducible rfl
  (try simp only [Act.put, List.setIfInBounds_toArray, List.set_cons_zero, List.set_cons_succ, List.getElem_toArray, List.getElem_cons_zero, List.getElem_cons_succ])
  refine wpAnyH_take (i := 5) (v := ?_) rfl (by kernel_rfl) (by kernel_rfl) (by kernel_rfl) (fun _ _ _ h => h) (Or.inl ⟨by rfl, ?_⟩) hHeld ?_
  rotate_left
  · (intro w hSw; (try dsimp only at hSw); go_simp) <;> with_reducible rfl
  (try simp only [Act.put, List.setIfInBounds_toArray, List.set_cons_zero, List.set_cons_succ, List.getElem_toArray, List.getElem_cons_zero, List.getElem_cons_succ])
  refine wpAnyH_take (i := 6) (v := ?_) rfl (by kernel_rfl) (by kernel_rfl) (by kernel_rfl) (fun _ _ _ h => h) (Or.inl ⟨by rfl, ?_⟩) hHeld ?_
  rotate_left
  · (intro w hSw; (try dsimp only at hSw); go_simp) <;> with_reducible rfl
  (try simp only [Act.put, List.setIfInBounds_toArray, List.set_cons_zero, List.set_cons_succ, List.getElem_toArray, List.getElem_cons_zero, List.getElem_cons_succ])
  refine wpAnyH_take (i := 7) (v := ?_) rfl (by kernel_rfl) (by kernel_rfl) (by kernel_rfl) (fun _ _ _ h => h) (Or.inl ⟨by rfl, ?_⟩) hHeld ?_
  rotate_left
  · (intro w hSw; (try dsimp only at hSw); go_simp) <;> with_reducible rfl
  (try simp only [Act.put, List.setIfInBounds_toArray, List.set_cons_zero, List.set_cons_succ, List.getElem_toArray, List.getElem_cons_zero, List.getElem_cons_succ])
  refine wpAnyH_take (i := 8) (v := ?_) rfl (by kernel_rfl) (by kernel_rfl) (by kernel_rfl) (fun _ _ _ h => h) (Or.inl ⟨by rfl, ?_⟩) hHeld ?_
  rotate_left
  · (intro w hSw; (try dsimp only at hSw); go_simp) <;> with_reducible rfl
  (try simp only [Act.put, List.setIfInBounds_toArray, List.set_cons_zero, List.set_cons_succ, List.getElem_toArray, List.getElem_cons_zero, List.getElem_cons_succ])
  refine wpAnyH_take (i := 9) (v := ?_) rfl (by kernel_rfl) (by kernel_rfl) (by kernel_rfl) (fun _ _ _ h => h) (Or.inl ⟨by rfl, ?_⟩) hHeld ?_
  rotate_left
  · (intro w hSw; (try dsimp only at hSw); go_simp) <;> with_reducible rfl
  (try simp only [Act.put, List.setIfInBounds_toArray, List.set_cons_zero, List.set_cons_succ, List.getElem_toArray, List.getElem_cons_zero, List.getElem_cons_succ])
  refine wpAnyH_take (i := 10) (v := ?_) rfl (by kernel_rfl) (by kernel_rfl) (by kernel_rfl) (fun _ _ _ h => h) (Or.inl ⟨by rfl, ?_⟩) hHeld ?_
  rotate_left
  · (intro w hSw; (try dsimp only at hSw); go_simp) <;> with_reducible rfl
  (try simp only [Act.put, List.setIfInBounds_toArray, List.set_cons_zero, List.set_cons_succ, List.getElem_toArray, List.getElem_cons_zero, List.getElem_cons_succ])
  refine wpAnyH_take (i := 11) (v := ?_) rfl (by kernel_rfl) (by kernel_rfl) (by kernel_rfl) (fun _ _ _ h => h) (Or.inl ⟨by rfl, ?_⟩) hHeld ?_
  rotate_left
  · (intro w hSw; (try dsimp only at hSw); go_simp) <;> with_reducible rfl
  (try simp only [Act.put, List.setIfInBounds_toArray, List.set_cons_zero, List.set_cons_succ, List.getElem_toArray, List.getElem_cons_zero, List.getElem_cons_succ])
  refine wpAnyH_take (i := 12) (v := ?_) rfl (by kernel_rfl) (by kernel_rfl) (by kernel_rfl) (fun _ _ _ h => h) (Or.inl ⟨by rfl, ?_⟩) hHeld ?_
  rotate_left
  · (intro w hSw; (try dsimp only at hSw); go_simp) <;> with_reducible rfl
  (try simp only [Act.put, List.setIfInBounds_toArray, List.set_cons_zero, List.set_cons_succ, List.getElem_toArray, List.getElem_cons_zero, List.getElem_cons_succ])
  refine wpAnyH_take (i := 13) (v := ?_) rfl (by kernel_rfl) (by kernel_rfl) (by kernel_rfl) (fun _ _ _ h => h) (Or.inl ⟨by rfl, ?_⟩) hHeld ?_
  rotate_left
  · (intro w hSw; (try dsimp only at hSw); go_simp) <;> with_reducible rfl
  (try simp only [Act.put, List.setIfInBounds_toArray, List.set_cons_zero, List.set_cons_succ, List.getElem_toArray, List.getElem_cons_zero, List.getElem_cons_succ])
  refine wpAnyH_take (i := 14) (v := ?_) rfl (by kernel_rfl) (by kernel_rfl) (by kernel_rfl) (fun _ _ _ h => h) (Or.inl ⟨by rfl, ?_⟩) hHeld ?_
  rotate_left
  · (intro w hSw; (try dsimp only at hSw); go_simp) <;> with_reducible rfl
  (try simp only [Act.put, List.setIfInBounds_toArray, List.set_cons_zero, List.set_cons_succ, List.getElem_toArray, List.getElem_cons_zero, List.getElem_cons_succ])
  refine wpAnyH_ready (rs := [15]) (by kernel_rfl) (by simp) ?_
  refine AllReadyH.cons rfl (fun K hK => ?_) AllReadyH.nil
  go_simp
  refine hK.out _ _ hHeld (fun _ => ?_)
  clear hK K
  (try simp only [Act.put, List.setIfInBounds_toArray, List.set_cons_zero, List.set_cons_succ, List.getElem_toArray, List.getElem_cons_zero, List.getElem_cons_succ])
  refine wpAnyH_done (by kernel_rfl) ?_ _
  clear hHeld hlk hp4 hp6 hc1 hgi hgl hlg hfe s0
  go_wp2_with fail
  refine (H.out.2.2.2.1 _ ((Chg.refl _ _).drew)).mono ?_
  rintro e w1 ⟨rfl, F1, ⟨L1, d1, b1, A1, ca1, vp1, vt1, vo1, hg, hF1⟩, hc1, hn1⟩
  obtain ⟨c9, f9, s9⟩ := hg.blk.facts
  have HT := Lib.hid (And.intro hg (And.intro hF1 (And.intro hc1 hn1)))
  clear hg hF1 hc1 hn1
  go_wp2_with fail
  refine (ptake_some b1 j X.free A1 ca1 _ HT.out.1.pol hxl HT.out.1.tab H.out.2.2.2.2.2.2).mono ?_
  rintro e w2 ⟨rfl, h2, h3⟩
  clear c9 f9 s9
  obtain ⟨hp2, ht2⟩ := HT.out.1.pool h2 h3
  obtain ⟨c9, f9, s9⟩ := hp2.blk.facts
  obtain ⟨g2, ct2, rfl, hgl, hlg, hce, hfe⟩ := hp2.entry (i := i) (s := s) H.out.2.2.2.2.2.1
  have HU := Lib.hid (And.intro hp2 (And.intro ht2 (hp2.gs)))
  clear hp2 ht2 h2 h3
  go_wp2_with fail
  refine (H.out.2.2.2.2.1 _ _ HU.out.2.2).mono ?_
  rintro e w3 ⟨rfl, F3, ⟨L3, d3, b3, A3, ca3, vp3, vt3, vo3, hg, hF3⟩, hc3, hn3⟩
  clear c9 f9 s9 hgl hlg hce hfe
  have ho3 : OpnIn w3 L3 vo3 (some (o.lft k s)) := hg.opn
  obtain ⟨c3, vw3, M3, s13, vl3, M23, s23, rfl, hi3⟩ := ho3
  obtain ⟨gT, cT, rfl, hgl, hlg, hce, hfe⟩ := hg.entry (i := i) (s := s) H.out.2.2.2.2.2.1
  obtain ⟨hgt0, htt0⟩ := hg.tset rfl i j
  have hgt := hgt0.grew ((Chg.refl _ _).drew)
  have htt : Trn w3 (w3.setCell ⟨gT, i, none⟩ (.int .i64 j)).drew L3 L3 5 := Trn.keep (htt0.chg.drew) hg.lt (by omega)
  have hi4 := hi3.keep htt (by omega)
  obtain ⟨v0, st, o1, o2, hr1, hr2, hgp, htp⟩ := hgt.frput hi4 hj4 H2.out.1
  simp only [goInt] at hr1 hr2
  have HG := Lib.hid (And.intro hg (And.intro hF3 (And.intro hc3 hn3)))
  have HG2 := Lib.hid (And.intro hgt (And.intro htt (And.intro hi4 (And.intro hgp htp))))
  have hS : w3.drew.cell? ⟨p, 4, none⟩ = some (.slice (some ⟨gT, 0, none⟩) X.table.length cT) ∧ w3.drew.cell? ⟨p, 6, none⟩ = some (.pointer (some ⟨c3, 0, none⟩)) ∧ w3.drew.cell? ⟨c3, 1, none⟩ = some (.map (some M3)) := ⟨(hg.blk.drew).cell 4, (hg.blk.drew).cell 6, (hi3.blk.drew).cell 1⟩
  have hS4 : (w3.setCell ⟨gT, i, none⟩ (.int .i64 j)).drew.cell? ⟨p, 4, none⟩ = some (.slice (some ⟨gT, 0, none⟩) X.table.length cT) ∧ (w3.setCell ⟨gT, i, none⟩ (.int .i64 j)).drew.cell? ⟨p, 6, none⟩ = some (.pointer (some ⟨c3, 0, none⟩)) ∧ (w3.setCell ⟨gT, i, none⟩ (.int .i64 j)).drew.cell? ⟨c3, 1, none⟩ = some (.map (some M3)) := by
    have hb := hgt.blk
    simp only [List.length_set] at hb
    exact ⟨hb.cell 4, hb.cell 6, hi4.blk.cell 1⟩
  have hS5 : ∀ u, Chg (fun j => j = M3) (w3.setCell ⟨gT, i, none⟩ (.int .i64 j)).drew u → u.cell? ⟨p, 4, none⟩ = some (.slice (some ⟨gT, 0, none⟩) X.table.length cT) ∧ u.cell? ⟨p, 6, none⟩ = some (.pointer (some ⟨c3, 0, none⟩)) ∧ u.cell? ⟨c3, 1, none⟩ = some (.map (some M3)) := fun u hu => by
    have hb := (hgt.blk).chg hu (fun e => by have := hgt.lp; have := hi4.lf; rw [← e] at this; omega)
    have hb2 := hi4.blk.chg hu (fun e => by have := hi4.lc; have := hi4.lf; rw [← e] at this; omega)
    exact ⟨hb.cell 4, hb.cell 6, hb2.cell 1⟩
  have HS5 := Lib.hid hS5
  clear hg hF3 hc3 hn3 hi3 hgt0 htt0 hgt htt hi4 hgp htp hS5 hlg
  go_wp2_with fail
  refine wp_region_held_drew (S := fun w' => w'.cell? ⟨p, 4, none⟩ = some (.slice (some ⟨gT, 0, none⟩) X.table.length cT) ∧ w'.cell? ⟨p, 6, none⟩ = some (.pointer (some ⟨c3, 0, none⟩)) ∧ w'.cell? ⟨c3, 1, none⟩ = some (.map (some M3))) (by kernel_rfl) hS (fun hHeld => ?_)
  refine wpAnyH_take (i := 0) (v := ?_) rfl (by kernel_rfl) (by kernel_rfl) (by kernel_rfl) (fun _ _ _ h => h) (Or.inl ⟨by rfl, ?_⟩) hHeld ?_
  rotate_left
  · (intro w hSw; (try dsimp only at hSw); go_simp) <;> with_reducible rfl
  (try simp only [Act.put, List.setIfInBounds_toArray, List.set_cons_zero, List.set_cons_succ, List.getElem_toArray, List.getElem_cons_zero, List.getElem_cons_succ])
  refine wpAnyH_take (i := 1) (v := ?_) rfl (by kernel_rfl) (by kernel_rfl) (by kernel_rfl) (fun _ _ _ h => h) (Or.inl ⟨by rfl, ?_⟩) hHeld ?_
  rotate_left
  · (intro w hSw; (try dsimp only at hSw); go_simp) <;> with_reducible rfl
  (try simp only [Act.put, List.setIfInBounds_toArray, List.set_cons_zero, List.set_cons_succ, List.getElem_toArray, List.getElem_cons_zero, List.getElem_cons_succ])
  refine wpAnyH_take (i := 2) (v := ?_) rfl (by kernel_rfl) (by kernel_rfl) (by kernel_rfl) (fun _ _ _ h => h) (Or.inl ⟨by rfl, ?_⟩) hHeld ?_
  rotate_left
  · (intro w hSw; (try dsimp only at hSw); go_simp) <;> with_reducible rfl
  (try simp only [Act.put, List.setIfInBounds_toArray, List.set_cons_zero, List.set_cons_succ, List.getElem_toArray, List.getElem_cons_zero, List.getElem_cons_succ])
  refine wpAnyH_take (i := 3) (v := ?_) rfl (by kernel_rfl) (by kernel_rfl) (by kernel_rfl) (fun _ _ _ h => h) (Or.inl ⟨by rfl, ?_⟩) hHeld ?_
  rotate_left
  · (intro w hSw; (try dsimp only at hSw); go_simp) <;> with_reducible rfl
  (try simp only [Act.put, List.setIfInBounds_toArray, List.set_cons_zero, List.set_cons_succ, List.getElem_toArray, List.getElem_cons_zero, List.getElem_cons_succ])
  refine wpAnyH_take (i := 4) (v := ?_) rfl (by kernel_rfl) (by kernel_rfl) (by kernel_rfl) (fun _ _ _ h => h) (Or.inl ⟨by rfl, ?_⟩) hHeld ?_
  rotate_left
  · (intro w hSw; (try dsimp only at hSw); go_simp) <;> with_reducible rfl
  (try simp only [Act.put, List.setIfInBounds_toArray, List.set_cons_zero, List.set_cons_succ, List.getElem_toArray, List.getElem_cons_zero, List.getElem_cons_succ])
  refine wpAnyH_take (i := 5) (v := ?_) rfl (by kernel_rfl) (by kernel_rfl) (by kernel_rfl) (fun _ _ _ h => h) (Or.inl ⟨by rfl, ?_⟩) hHeld ?_
  rotate_left
  · (intro w hSw; (try dsimp only at hSw); go_simp) <;> with_reducible rfl
  (try simp only [Act.put, List.setIfInBounds_toArray, List.set_cons_zero, List.set_cons_succ, List.getElem_toArray, List.getElem_cons_zero, List.getElem_cons_succ])
  refine wpAnyH_take (i := 6) (v := ?_) rfl (by kernel_rfl) (by kernel_rfl) (by kernel_rfl) (fun _ _ _ h => h) (Or.inl ⟨by rfl, ?_⟩) hHeld ?_
  rotate_left
  · (intro w hSw; (try dsimp only at hSw); go_simp) <;> with_reducible rfl
  (try simp only [Act.put, List.setIfInBounds_toArray, List.set_cons_zero, List.set_cons_succ, List.getElem_toArray, List.getElem_cons_zero, List.getElem_cons_succ])
  refine wpAnyH_take (i := 7) (v := ?_) rfl (by kernel_rfl) (by kernel_rfl) (by kernel_rfl) (fun _ _ _ h => h) (Or.inl ⟨by rfl, ?_⟩) hHeld ?_
  rotate_left
  · (intro w hSw; (try dsimp only at hSw); go_simp) <;> with_reducible rfl
  (try simp only [Act.put, List.setIfInBounds_toArray, List.set_cons_zero, List.set_cons_succ, List.getElem_toArray, List.getElem_cons_zero, List.getElem_cons_succ])
  refine wpAnyH_take (i := 8) (v := ?_) rfl (by kernel_rfl) (by kernel_rfl) (by kernel_rfl) (fun _ _ _ h => h) (Or.inl ⟨by rfl, ?_⟩) hHeld ?_
  rotate_left
  · (intro w hSw; (try dsimp only at hSw); go_simp) <;> with_reducible rfl
  (try simp only [Act.put, List.setIfInBounds_toArray, List.set_cons_zero, List.set_cons_succ, List.getElem_toArray, List.getElem_cons_zero, List.getElem_cons_succ])
  refine wpAnyH_take (i := 9) (v := ?_) rfl (by kernel_rfl) (by kernel_rfl) (by kernel_rfl) (fun _ _ _ h => h) (Or.inl ⟨by rfl, ?_⟩) hHeld ?_
  rotate_left
  · (intro w hSw; (try dsimp only at hSw); go_simp) <;> with_reducible rfl
  (try simp only [Act.put, List.setIfInBounds_toArray, List.set_cons_zero, List.set_cons_succ, List.getElem_toArray, List.getElem_cons_zero, List.getElem_cons_succ])
  refine wpAnyH_take (i := 10) (v := ?_) rfl (by kernel_rfl) (by kernel_rfl) (by kernel_rfl) (fun _ _ _ h => h) (Or.inl ⟨by rfl, ?_⟩) hHeld ?_
  rotate_left
  · (intro w hSw; (try dsimp only at hSw); go_simp) <;> with_reducible rfl
  (try simp only [Act.put, List.setIfInBounds_toArray, List.set_cons_zero, List.set_cons_succ, List.getElem_toArray, List.getElem_cons_zero, List.getElem_cons_succ])
  refine wpAnyH_take (i := 11) (v := ?_) rfl (by kernel_rfl) (by kernel_rfl) (by kernel_rfl) (fun _ _ _ h => h) (Or.inl ⟨by rfl, ?_⟩) hHeld ?_
  rotate_left
  · (intro w hSw; (try dsimp only at hSw); go_simp) <;> with_reducible rfl
  (try simp only [Act.put, List.setIfInBounds_toArray, List.set_cons_zero, List.set_cons_succ, List.getElem_toArray, List.getElem_cons_zero, List.getElem_cons_succ])
  refine wpAnyH_take (i := 12) (v := ?_) rfl (by kernel_rfl) (by kernel_rfl) (by kernel_rfl) (fun _ _ _ h => h) (Or.inl ⟨by rfl, ?_⟩) hHeld ?_
  rotate_left
  · (intro w hSw; (try dsimp only at hSw); go_simp) <;> with_reducible rfl
  (try simp only [Act.put, List.setIfInBounds_toArray, List.set_cons_zero, List.set_cons_succ, List.getElem_toArray, List.getElem_cons_zero, List.getElem_cons_succ])
  refine wpAnyH_take (i := 13) (v := ?_) rfl (by kernel_rfl) (by kernel_rfl) (by kernel_rfl) (fun _ _ _ h => h) (Or.inl ⟨by rfl, ?_⟩) hHeld ?_
  rotate_left
  · (intro w hSw; (try dsimp only at hSw); go_simp) <;> with_reducible rfl
  (try simp only [Act.put, List.setIfInBounds_toArray, List.set_cons_zero, List.set_cons_succ, List.getElem_toArray, List.getElem_cons_zero, List.getElem_cons_succ])
  refine wpAnyH_take (i := 14) (v := ?_) rfl (by kernel_rfl) (by kernel_rfl) (by kernel_rfl) (fun _ _ _ h => h) (Or.inl ⟨by rfl, ?_⟩) hHeld ?_
  rotate_left
  · (intro w hSw; (try dsimp only at hSw); go_simp) <;> with_reducible rfl
  (try simp only [Act.put, List.setIfInBounds_toArray, List.set_cons_zero, List.set_cons_succ, List.getElem_toArray, List.getElem_cons_zero, List.getElem_cons_succ])
  refine wpAnyH_ready (rs := [15]) (by kernel_rfl) (by simp) ?_
  refine AllReadyH.cons rfl (fun K hK => ?_) AllReadyH.nil
  go_simp
  refine hK.out _ _ hS4 (fun _ => ?_)
  clear hK K
  (try simp only [Act.put, List.setIfInBounds_toArray, List.set_cons_zero, List.set_cons_succ, List.getElem_toArray, List.getElem_cons_zero, List.getElem_cons_succ])
  refine wpAnyH_ready (rs := [16]) (by kernel_rfl) (by simp) ?_
  refine AllReadyH.cons rfl (fun K hK => ?_) AllReadyH.nil
  go_simp
  refine hK.out _ _ (HS5.out _ (setBlock_turns _ M3 o1)) (fun _ => ?_)
  clear hK K
  (try simp only [Act.put, List.setIfInBounds_toArray, List.set_cons_zero, List.set_cons_succ, List.getElem_toArray, List.getElem_cons_zero, List.getElem_cons_succ])
  refine wpAnyH_take (i := 17) (v := ?_) rfl (by kernel_rfl) (by kernel_rfl) (by kernel_rfl) (fun _ _ _ h => h) (Or.inl ⟨by rfl, ?_⟩) (HS5.out _ (setBlock_turns _ M3 o1)) ?_
  rotate_left
  · (intro w hSw; (try dsimp only at hSw); go_simp) <;> with_reducible rfl
  (try simp only [Act.put, List.setIfInBounds_toArray, List.set_cons_zero, List.set_cons_succ, List.getElem_toArray, List.getElem_cons_zero, List.getElem_cons_succ])
  refine wpAnyH_ready (rs := [18]) (by kernel_rfl) (by simp) ?_
  refine AllReadyH.cons rfl (fun K hK => ?_) AllReadyH.nil
  go_simp
  refine hK.out _ _ (HS5.out _ (Chg.trans (setBlock_turns _ M3 o1) (setBlock_turns _ M3 o2) fun _ _ e => e)) (fun _ => ?_)
  clear hK K
  (try simp only [Act.put, List.setIfInBounds_toArray, List.set_cons_zero, List.set_cons_succ, List.getElem_toArray, List.getElem_cons_zero, List.getElem_cons_succ])
  refine wpAnyH_done (by kernel_rfl) ?_ _
  have hge := HG2.out.2.2.2.1
  have hte := HG2.out.2.2.2.2
  clear hHeld hS hS4 HS5 hr1 hr2 hgl hce hfe
  obtain ⟨W5, hW5⟩ : ∃ W, setBlock (setBlock (w3.setCell ⟨gT, i, none⟩ (.int .i64 j)).drew M3 o1) M3 o2 = W := ⟨_, rfl⟩
  rw [hW5] at hge hte ⊢
  have HC := Lib.hid (show Rch F (fun j => L3 j ≠ 0) w W5 from
    (Rch.grew ((Chg.refl _ _).drew)).trans ((⟨HT.out.2.2.1, HT.out.2.2.2⟩ : Rch F F1 _ _).trans (((HU.out.2.1.s (K := fun m => m = 3) HT.out.1.lt rfl (by omega)).rch (by omega) HT.out.2.1).trans
      ((⟨HG.out.2.2.1, HG.out.2.2.2⟩ : Rch _ F3 _ _).trans (((HG2.out.2.1.s (K := fun m => m = 5 ∨ m = 8) HG.out.1.lt (.inl rfl) (by omega)).trans (hte.s (K := fun m => m = 5 ∨ m = 8) HG2.out.1.lt (.inr rfl) (by omega))).rch (by omega) HG.out.2.1)))))
  have hdw : ∀ u, Grew W5 u → Calls Tryz.prog 75 #[.pointer (some ⟨d3, 0, none⟩), .int .i64 (j : Int), .slice Ab bs.length cb] u fun e' w' => e' = .returned (.int .i64 0) ∧ DTo u w' d3 (fun j => L3 j = 2) (X.D.wr j bs) := fun u hg => by
    refine dwrite_ok d3 j bs Ab hA cb _ X.D u (hge.dsk.grew hg) H2.out.2.1 H2.out.2.2.1 (by omega) (by have := H2.out.2.2.2.2.2.2.2.2.1; have := H2.out.2.2.2.2.2.2.2.2.2.2.1; omega) H2.out.2.2.2.2.1 ((H2.out.2.2.2.2.2.1.chg HC.out.chg H2.out.2.2.2.2.2.2.1).grew hg)
  have HE := Lib.hid (And.intro hge (And.intro HG.out.2.1 (And.intro hdw (And.intro (show (X.table.set i j)[i]? = some j from List.getElem?_set_self hil) H2.out.2.2.2.1))))
  have hpp0 : W5.drew.cell? ⟨p, 0, none⟩ = some (.pointer (some ⟨d3, 0, none⟩)) := (hge.blk.drew).cell 0
  have hpp4 : W5.drew.cell? ⟨p, 4, none⟩ = some (.slice (some ⟨gT, 0, none⟩) X.table.length cT) := (hge.blk.drew).cell 4
  have hggi : W5.drew.cell? ⟨gT, i, none⟩ = some (.int .i64 j) := by
    obtain ⟨g9, ct9, e9, -, -, hce9, -⟩ := hge.entry (i := i) (s := j) HE.out.2.2.2.1
    obtain rfl : gT = g9 := by injection e9 with q1; injection q1 with q1; injection q1
    exact hce9
  have HE3 := Lib.hid (And.intro hpp0 (And.intro hpp4 hggi))
  clear hge hte hW5 hdw hpp0 hpp4 hggi
  go_wp2_with fail
  refine wp_region_held_drew (S := fun w' => w'.cell? ⟨p, 0, none⟩ = some (.pointer (some ⟨d3, 0, none⟩)) ∧ w'.cell? ⟨p, 4, none⟩ = some (.slice (some ⟨gT, 0, none⟩) X.table.length cT) ∧ w'.cell? ⟨gT, i, none⟩ = some (.int .i64 j)) (by kernel_rfl) HE3.out (fun hHeld => ?_)
  refine wpAnyH_take (i := 0) (v := ?_) rfl (by kernel_rfl) (by kernel_rfl) (by kernel_rfl) (fun _ _ _ h => h) (Or.inl ⟨by rfl, ?_⟩) hHeld ?_
  rotate_left
  · (intro w hSw; (try dsimp only at hSw); go_simp) <;> with_reducible rfl
  (try simp only [Act.put, List.setIfInBounds_toArray, List.set_cons_zero, List.set_cons_succ, List.getElem_toArray, List.getElem_cons_zero, List.getElem_cons_succ])
  refine wpAnyH_take (i := 1) (v := ?_) rfl (by kernel_rfl) (by kernel_rfl) (by kernel_rfl) (fun _ _ _ h => h) (Or.inl ⟨by rfl, ?_⟩) hHeld ?_
  rotate_left
  · (intro w hSw; (try dsimp only at hSw); go_simp) <;> with_reducible rfl
  (try simp only [Act.put, List.setIfInBounds_toArray, List.set_cons_zero, List.set_cons_succ, List.getElem_toArray, List.getElem_cons_zero, List.getElem_cons_succ])
  refine wpAnyH_take (i := 2) (v := ?_) rfl (by kernel_rfl) (by kernel_rfl) (by kernel_rfl) (fun _ _ _ h => h) (Or.inl ⟨by rfl, ?_⟩) hHeld ?_
  rotate_left
  · (intro w hSw; (try dsimp only at hSw); go_simp) <;> with_reducible rfl
  (try simp only [Act.put, List.setIfInBounds_toArray, List.set_cons_zero, List.set_cons_succ, List.getElem_toArray, List.getElem_cons_zero, List.getElem_cons_succ])
  refine wpAnyH_take (i := 3) (v := ?_) rfl (by kernel_rfl) (by kernel_rfl) (by kernel_rfl) (fun _ _ _ h => h) (Or.inl ⟨by rfl, ?_⟩) hHeld ?_
  rotate_left
  · (intro w hSw; (try dsimp only at hSw); go_simp) <;> with_reducible rfl
  (try simp only [Act.put, List.setIfInBounds_toArray, List.set_cons_zero, List.set_cons_succ, List.getElem_toArray, List.getElem_cons_zero, List.getElem_cons_succ])
  refine wpAnyH_take (i := 4) (v := ?_) rfl (by kernel_rfl) (by kernel_rfl) (by kernel_rfl) (fun _ _ _ h => h) (Or.inl ⟨by rfl, ?_⟩) hHeld ?_
  rotate_left
  · (intro w hSw; (try dsimp only at hSw); go_simp) <;> with_reducible rfl
  (try simp only [Act.put, List.setIfInBounds_toArray, List.set_cons_zero, List.set_cons_succ, List.getElem_toArray, List.getElem_cons_zero, List.getElem_cons_succ])
  refine wpAnyH_take (i := 5) (v := ?_) rfl (by kernel_rfl) (by kernel_rfl) (by kernel_rfl) (fun _ _ _ h => h) (Or.inl ⟨by rfl, ?_⟩) hHeld ?_
  rotate_left
  · (intro w hSw; (try dsimp only at hSw); go_simp) <;> with_reducible rfl
  (try simp only [Act.put, List.setIfInBounds_toArray, List.set_cons_zero, List.set_cons_succ, List.getElem_toArray, List.getElem_cons_zero, List.getElem_cons_succ])
  refine wpAnyH_take (i := 6) (v := ?_) rfl (by kernel_rfl) (by kernel_rfl) (by kernel_rfl) (fun _ _ _ h => h) (Or.inl ⟨by rfl, ?_⟩) hHeld ?_
  rotate_left
  · (intro w hSw; (try dsimp only at hSw); go_simp) <;> with_reducible rfl
  (try simp only [Act.put, List.setIfInBounds_toArray, List.set_cons_zero, List.set_cons_succ, List.getElem_toArray, List.getElem_cons_zero, List.getElem_cons_succ])
  refine wpAnyH_take (i := 7) (v := ?_) rfl (by kernel_rfl) (by kernel_rfl) (by kernel_rfl) (fun _ _ _ h => h) (Or.inl ⟨by rfl, ?_⟩) hHeld ?_
  rotate_left
  · (intro w hSw; (try dsimp only at hSw); go_simp) <;> with_reducible rfl
  (try simp only [Act.put, List.setIfInBounds_toArray, List.set_cons_zero, List.set_cons_succ, List.getElem_toArray, List.getElem_cons_zero, List.getElem_cons_succ])
  refine wpAnyH_take (i := 8) (v := ?_) rfl (by kernel_rfl) (by kernel_rfl) (by kernel_rfl) (fun _ _ _ h => h) (Or.inl ⟨by rfl, ?_⟩) hHeld ?_
  rotate_left
  · (intro w hSw; (try dsimp only at hSw); go_simp) <;> with_reducible rfl
  (try simp only [Act.put, List.setIfInBounds_toArray, List.set_cons_zero, List.set_cons_succ, List.getElem_toArray, List.getElem_cons_zero, List.getElem_cons_succ])
  refine wpAnyH_take (i := 9) (v := ?_) rfl (by kernel_rfl) (by kernel_rfl) (by kernel_rfl) (fun _ _ _ h => h) (Or.inl ⟨by rfl, ?_⟩) hHeld ?_
  rotate_left
  · (intro w hSw; (try dsimp only at hSw); go_simp) <;> with_reducible rfl
  (try simp only [Act.put, List.setIfInBounds_toArray, List.set_cons_zero, List.set_cons_succ, List.getElem_toArray, List.getElem_cons_zero, List.getElem_cons_succ])
  refine wpAnyH_take (i := 10) (v := ?_) rfl (by kernel_rfl) (by kernel_rfl) (by kernel_rfl) (fun _ _ _ h => h) (Or.inl ⟨by rfl, ?_⟩) hHeld ?_
  rotate_left
  · (intro w hSw; (try dsimp only at hSw); go_simp) <;> with_reducible rfl
  (try simp only [Act.put, List.setIfInBounds_toArray, List.set_cons_zero, List.set_cons_succ, List.getElem_toArray, List.getElem_cons_zero, List.getElem_cons_succ])
  refine wpAnyH_take (i := 11) (v := ?_) rfl (by kernel_rfl) (by kernel_rfl) (by kernel_rfl) (fun _ _ _ h => h) (Or.inl ⟨by rfl, ?_⟩) hHeld ?_
  rotate_left
  · (intro w hSw; (try dsimp only at hSw); go_simp) <;> with_reducible rfl
  (try simp only [Act.put, List.setIfInBounds_toArray, List.set_cons_zero, List.set_cons_succ, List.getElem_toArray, List.getElem_cons_zero, List.getElem_cons_succ])
  refine wpAnyH_take (i := 12) (v := ?_) rfl (by kernel_rfl) (by kernel_rfl) (by kernel_rfl) (fun _ _ _ h => h) (Or.inl ⟨by rfl, ?_⟩) hHeld ?_
  rotate_left
  · (intro w hSw; (try dsimp only at hSw); go_simp) <;> with_reducible rfl
  (try simp only [Act.put, List.setIfInBounds_toArray, List.set_cons_zero, List.set_cons_succ, List.getElem_toArray, List.getElem_cons_zero, List.getElem_cons_succ])
  refine wpAnyH_ready (rs := [13]) (by kernel_rfl) (by simp) ?_
  refine AllReadyH.cons rfl (fun K hK => ?_) AllReadyH.nil
  go_simp
  refine (HE.out.2.2.1 _ ((Chg.refl _ _).drew)).mono ?_
  rintro e w3 ⟨rfl, h3⟩
  obtain ⟨L3, hG3, ht3⟩ := (HE.out.1.grew ((Chg.refl _ _).drew)).disk h3
  obtain ⟨g3, ct3, e3', hgl3, hlg3, hce3, hfe3⟩ := hG3.entry (i := i) (s := j) HE.out.2.2.2.1
  obtain rfl : gT = g3 := by injection e3' with q1; injection q1 with q1; injection q1
  have hb3 := hG3.blk
  have hpg : p ≠ gT := fun e => by have := hG3.lp; rw [e] at this; omega
  have hHeld3 : w3.cell? ⟨p, 0, none⟩ = some (.pointer (some ⟨d3, 0, none⟩)) ∧ w3.cell? ⟨p, 4, none⟩ = some (.slice (some ⟨gT, 0, none⟩) X.table.length cT) ∧ w3.cell? ⟨gT, i, none⟩ = some (.int .i64 j) := ⟨hb3.cell 0, hb3.cell 4, hce3⟩
  have HG := Lib.hid (And.intro hG3 (And.intro ht3 hce3))
  clear hb3 hG3 ht3 h3 hgl3 hlg3 hce3 hfe3
  refine hK.out _ _ hHeld3 (fun _ => ?_)
  clear hK K
  (try simp only [Act.put, List.setIfInBounds_toArray, List.set_cons_zero, List.set_cons_succ, List.getElem_toArray, List.getElem_cons_zero, List.getElem_cons_succ])
  refine wpAnyH_ready (rs := [14]) (by kernel_rfl) (by simp) ?_
  refine AllReadyH.cons rfl (fun K hK => ?_) AllReadyH.nil
  go_simp
  refine (gnote_at p 0 _ _ HG.out.1.blk (by show _ = some (Value.bool false); rw [← HE.out.2.2.2.2]; rfl) rfl).mono ?_
  rintro e w4 ⟨rfl, hw4⟩
  have hHeld4 : w4.cell? ⟨p, 0, none⟩ = some (.pointer (some ⟨d3, 0, none⟩)) ∧ w4.cell? ⟨p, 4, none⟩ = some (.slice (some ⟨gT, 0, none⟩) X.table.length cT) ∧ w4.cell? ⟨gT, i, none⟩ = some (.int .i64 j) := by
    subst hw4
    exact ⟨(HG.out.1.blk.put 7 (.bool false)).cell 0, (HG.out.1.blk.put 7 (.bool false)).cell 4, by rw [World.cell?_setCell_far _ _ _ _ hpg]; exact HG.out.2.2⟩
  have HW4 := Lib.hid hw4
  clear hw4
  refine hK.out _ _ hHeld4 (fun _ => ?_)
  clear hK K
  (try simp only [Act.put, List.setIfInBounds_toArray, List.set_cons_zero, List.set_cons_succ, List.getElem_toArray, List.getElem_cons_zero, List.getElem_cons_succ])
  refine wpAnyH_ready (rs := [15]) (by kernel_rfl) (by simp) ?_
  refine AllReadyH.cons rfl (fun K hK => ?_) AllReadyH.nil
  go_simp
  refine hK.out _ _ hHeld4 (fun _ => ?_)
  clear hK K
  (try simp only [Act.put, List.setIfInBounds_toArray, List.set_cons_zero, List.set_cons_succ, List.getElem_toArray, List.getElem_cons_zero, List.getElem_cons_succ])
  refine wpAnyH_done (by kernel_rfl) ?_ _
  clear hHeld hHeld3 hHeld4
  go_wp2
  go_ret
  refine ⟨rfl, ?_⟩
  have hfl := HG.out.1.flag false
  rw [HW4.out] at hfl
  refine To.then HC.out.chg HC.out.new (To.ahead (w' := W5.drew) ((Chg.refl _ _).drew) ?_)
  have hgo := hfl.1.toS (K := fun m => m = 2 ∨ m = 1) ((HG.out.2.1.s HE.out.1.lt (.inl rfl) (by omega)).trans (hfl.2.s HG.out.1.lt (.inr rfl) (by omega))) (by omega) (fun _ => Iff.rfl)
  have e : X.fill o i s j bs = { X with D := X.D.wr j bs, table := X.table.set i j, free := trn X.free j, op := some { o.lft k s with fresh := setB (o.lft k s).fresh j true }, down := false } := by
    unfold Gp.fill Cg.fill Cg.lft
    rw [H2.out.2.2.2.2.2.2.2.2.2.1, ← H2.out.2.2.2.1]
  rw [e]
  exact hgo

end Go.Proofs.YtjkkoogfaibhiaaGreatDoor

/- The seal: halves, Sum, low. -/
namespace Go.Proofs.YtjkkoogfaibhiaaGreatDoor
open Go.RowKit

/-- What half a byte does to the register. -/
def crcT : List Nat := [0x00000000, 0x1db71064, 0x3b6e20c8, 0x26d930ac, 0x76dc4190, 0x6b6b51f4, 0x4db26158, 0x5005713c, 0xedb88320, 0xf00f9344, 0xd6d6a3e8, 0xcb61b38c, 0x9b64c2b0, 0x86d3d2d4, 0xa00ae278, 0xbdbdf21c]
def crcV : Array Value := #[.int .u32 0, .int .u32 498536548, .int .u32 997073096, .int .u32 651767980, .int .u32 1994146192, .int .u32 1802195444, .int .u32 1303535960, .int .u32 1342533948, .int .u32 3988292384, .int .u32 4027552580, .int .u32 3604390888, .int .u32 3412177804, .int .u32 2607071920, .int .u32 2262029012, .int .u32 2685067896, .int .u32 3183342108]
theorem crcV_at : ∀ k : Nat, k < 16 → crcV[k]? = some (.int .u32 ((crcT.getD k 0 : Nat) : Int)) := by
  intro k hk
  match k, hk with
  | 0, _ => rfl
  | 1, _ => rfl
  | 2, _ => rfl
  | 3, _ => rfl
  | 4, _ => rfl
  | 5, _ => rfl
  | 6, _ => rfl
  | 7, _ => rfl
  | 8, _ => rfl
  | 9, _ => rfl
  | 10, _ => rfl
  | 11, _ => rfl
  | 12, _ => rfl
  | 13, _ => rfl
  | 14, _ => rfl
  | 15, _ => rfl
  | k + 16, h => omega
def crcH (x : Nat) : Nat := x / 16 ^^^ crcT.getD (x % 16) 0
def crcS (x c : Nat) : Nat := crcH (crcH (x ^^^ c))
def crcR (x : Nat) (bs : List Int) : Nat := bs.foldl (fun x b => crcS x b.toNat) x
/-- The sum. -/
def crc (bs : List Int) : Nat := 4294967295 ^^^ crcR 4294967295 bs

theorem crcT_lt (k : Nat) : crcT.getD k 0 < 4294967296 := by
  by_cases h : k < 16
  · have : ∀ k : Fin 16, crcT.getD k.1 0 < 4294967296 := by decide
    exact this ⟨k, h⟩
  · rw [List.getD_eq_getElem?_getD, List.getElem?_eq_none (by simp [crcT]; omega)]; decide
theorem xor_lt32 {a b : Nat} (ha : a < 4294967296) (hb : b < 4294967296) : a ^^^ b < 4294967296 := Nat.xor_lt_two_pow (n := 32) ha hb
theorem crcH_lt {x : Nat} (h : x < 4294967296) : crcH x < 4294967296 := xor_lt32 (Nat.lt_of_le_of_lt (Nat.div_le_self _ _) h) (crcT_lt _)
theorem crcS_lt {x c : Nat} (h : x < 4294967296) (hc : c < 4294967296) : crcS x c < 4294967296 := crcH_lt (crcH_lt (xor_lt32 h hc))
theorem crcR_lt : ∀ {bs : List Int} {x : Nat}, (∀ b ∈ bs, 0 ≤ b ∧ b ≤ 255) → x < 4294967296 → crcR x bs < 4294967296
  | [], _, _, h => h
  | b :: bs, x, hb, h => crcR_lt (bs := bs) (fun c hc => hb c (by simp [hc])) (crcS_lt h (by have := hb b (by simp); omega))
theorem crcR_take {bs : List Int} {k : Nat} {b : Int} (h : bs[k]? = some b) (x : Nat) : crcR x (bs.take (k + 1)) = crcS (crcR x (bs.take k)) b.toNat := by
  unfold crcR
  rw [List.take_add_one, h, List.foldl_append]
  rfl

theorem wrap_u32 (x : Nat) (h : x < 4294967296) : IntKind.u32.wrap (x : Int) = (x : Int) := by
  simp [IntKind.wrap, IntKind.bits, IntKind.signed]
  omega
theorem bits_xor_u32 (a b : Nat) (ha : a < 4294967296) (hb : b < 4294967296) : bits BinOp.xor IntKind.u32 (a : Int) (b : Int) = ((a ^^^ b : Nat) : Int) := by
  have hx : a ^^^ b < 2 ^ 32 := Nat.xor_lt_two_pow (by omega) (by omega)
  have h1 : (BitVec.ofInt 32 (a : Int)).toNat = a := by
    rw [BitVec.ofInt_natCast, BitVec.toNat_ofNat]; exact Nat.mod_eq_of_lt (by omega)
  have h2 : (BitVec.ofInt 32 (b : Int)).toNat = b := by
    rw [BitVec.ofInt_natCast, BitVec.toNat_ofNat]; exact Nat.mod_eq_of_lt (by omega)
  show IntKind.u32.wrap ((BitVec.ofInt 32 (a : Int) ^^^ BitVec.ofInt 32 (b : Int)).toNat : Int) = _
  rw [BitVec.toNat_xor, h1, h2, wrap_u32 _ (by omega)]
theorem bits_and15_u32 (a : Nat) (ha : a < 4294967296) : bits BinOp.and IntKind.u32 (a : Int) 15 = ((a % 16 : Nat) : Int) := by
  have h1 : (BitVec.ofInt 32 (a : Int)).toNat = a := by
    rw [BitVec.ofInt_natCast, BitVec.toNat_ofNat]; exact Nat.mod_eq_of_lt (by omega)
  show IntKind.u32.wrap ((BitVec.ofInt 32 (a : Int) &&& BitVec.ofInt 32 15).toNat : Int) = _
  rw [BitVec.toNat_and, h1, show (BitVec.ofInt 32 15).toNat = 2 ^ 4 - 1 from rfl, Nat.and_two_pow_sub_one_eq_mod, wrap_u32 _ (by omega)]

theorem halves_any (w : World) : Calls Tryz.prog 160 #[] w fun e w' => e = .returned (.agg crcV) ∧ Grew w w' := by
  go_enter Tryz.func160, Tryz.ntmps160
  go_wp2
  refine bodyPost_ret (v := .agg crcV) (by simp [results, Tryz.results160, go_sem, crcV]) rfl ?_
  exact ⟨rfl, by (repeat (first | (with_reducible exact (Chg.refl _ _)) | (with_reducible refine Chg.alloc ?_ _) | (with_reducible refine Chg.drew ?_) | (with_reducible refine Chg.drewN ?_ _) | ((with_reducible refine Chg.setCell ?_ ?hp _); (case hp => (intro h; exfalso; simp at h; try omega)))))⟩

end Go.Proofs.YtjkkoogfaibhiaaGreatDoor

/- The seal: Sum. -/
namespace Go.Proofs.YtjkkoogfaibhiaaGreatDoor
open Go.RowKit

/-- A slice of one row of bytes. -/
def One (w : World) (A : Option Addr) (v : Value) : Prop := ∃ g off, A = some ⟨g, off, none⟩ ∧ g < w.heap.size ∧ w.cell? ⟨g, off, none⟩ = some v

theorem crcH_parts (y : Nat) (hy : y < 4294967296) : ∃ i q v z : Nat, bits BinOp.and IntKind.u32 (y : Int) 15 = (i : Int) ∧ i < 16 ∧ (y : Int) / 16 = (q : Int) ∧ crcT.getD i 0 = v ∧ bits BinOp.xor IntKind.u32 (q : Int) (v : Int) = (z : Int) ∧ z < 4294967296 ∧ crcH y = z :=
  ⟨y % 16, y / 16, crcT.getD (y % 16) 0, crcH y, bits_and15_u32 y hy, by omega, by omega, rfl, bits_xor_u32 _ _ (Nat.lt_of_le_of_lt (Nat.div_le_self _ _) hy) (crcT_lt _), crcH_lt hy, rfl⟩

set_option maxRecDepth 100000 in
set_option maxHeartbeats 1600000 in
theorem sum_any (bs : List Int) (A B : Option Addr) (c d : Nat) (w : World) (h1 : One w A (.slice B bs.length d)) (hs : Sl w 1 B bs.length (bv bs)) (hb : ∀ b ∈ bs, 0 ≤ b ∧ b ≤ 255) (hl : bs.length ≤ 1000000) :
    Calls Tryz.prog 143 #[.slice A 1 c] w fun e w' => e = .returned (.int .u32 (crc bs)) ∧ Grew w w' := by
  obtain ⟨g, off, rfl, hg, hcell⟩ := h1
  have H := Lib.hid (And.intro hs hb)
  clear hs hb
  go_enter Tryz.func143, Tryz.ntmps143
  go_wp2_with (first
    | (rw [HW2.out])
    | (go_at_call 160; refine (halves_any _).mono ?_; rintro e w1 ⟨rfl, hg1⟩; obtain ⟨W2, hW2⟩ : ∃ W2, w1.alloc (.cells crcV 191) = W2 := ⟨_, rfl⟩; have HT := Lib.hid (show Blk W2 w1.heap.size 191 crcV from hW2 ▸ Blk.new _ _ _); have HG2 := Lib.hid (show Grew w W2 from hW2 ▸ hg1.alloc _); unfold crcV at hW2; have HW2 := Lib.hid hW2; clear hg1 hW2; unfold crcV))
  obtain ⟨t3, ht3⟩ : ∃ t3, w1.heap.size = t3 := ⟨_, rfl⟩
  rw [ht3] at HT ⊢
  have hcell2 := (HG2.out.cell (p := ⟨g, off, none⟩) hg id).trans hcell
  have hg2 := Nat.lt_of_lt_of_le hg HG2.out.size
  clear ht3 hcell hg
  go_loopw [4, 6, 8, 12] (fun x _ _ i wr => W2 = wr ∧ ((i = .int .i64 0 ∧ x = .int .u32 4294967295) ∨ (i = .int .i64 1 ∧ x = .int .u32 (crcR 4294967295 bs)))) (fun _ _ _ i _ => 1 - (intOf i).toNat)
  case atStart => exact ⟨rfl, .inl ⟨rfl, rfl⟩⟩
  case round =>
    obtain ⟨hwr, ⟨rfl, rfl⟩ | ⟨rfl, rfl⟩⟩ := hrel
    all_goals subst hwr
    · go_wp2
      go_loopw [4, 8, 18] (fun x _ i wi => W2 = wi ∧ ∃ k : Nat, k ≤ bs.length ∧ i = .int .i64 k ∧ x = .int .u32 (crcR 4294967295 (bs.take k))) (fun _ _ i _ => bs.length - (intOf i).toNat)
      case atStart => exact ⟨rfl, 0, Nat.zero_le _, rfl, rfl⟩
      case round =>
        obtain ⟨hwi, k, hk, rfl, rfl⟩ := hrel
        subst hwi
        by_cases hlt : k < bs.length
        · obtain ⟨b, hbk⟩ : ∃ b, bs[k]? = some b := ⟨_, List.getElem?_eq_getElem hlt⟩
          obtain ⟨gb, ob, rfl, hgb, hx⟩ := (H.out.1.grew HG2.out).2 (by omega)
          have hbb := H.out.2 b (List.mem_of_getElem? hbk)
          obtain ⟨bn, rfl⟩ : ∃ n : Nat, b = (n : Int) := ⟨b.toNat, by omega⟩
          have hcb := hx k (.int .u8 bn) (by simp [bv, hbk])
          have hx0 := crcR_lt (bs := bs.take k) (x := 4294967295) (fun c hc => H.out.2 c (List.mem_of_mem_take hc)) (by decide)
          have hst := crcR_take hbk 4294967295
          obtain ⟨x, hxe⟩ : ∃ x, crcR 4294967295 (bs.take k) = x := ⟨_, rfl⟩
          rw [hxe] at hx0 hst ⊢
          have e1 := bits_xor_u32 x bn hx0 (by omega)
          have hx1 := xor_lt32 hx0 (show bn < 4294967296 by omega)
          have hstp : crcS x ((bn : Nat) : Int).toNat = crcH (crcH (x ^^^ bn)) := rfl
          rw [hstp] at hst
          have e0 : (bn : Int) % 4294967296 = (bn : Int) := by omega
          clear hstp hxe hbk hbb hx
          obtain ⟨y, hy⟩ : ∃ y, x ^^^ bn = y := ⟨_, rfl⟩
          rw [hy] at e1 hx1 hst
          clear hy hx0
          obtain ⟨i1, q1, v1, z, f1, f2, f3, f4, f5, f6, f7⟩ := crcH_parts y hx1
          rw [f7] at hst
          obtain ⟨i2, q2, v2, z2, g1, g2, g3, g4, g5, g6, g7⟩ := crcH_parts z f6
          rw [g7] at hst
          have ht1 := (HT.out.cell i1).trans ((crcV_at _ f2).trans (by rw [f4]))
          have ht2 := (HT.out.cell i2).trans ((crcV_at _ g2).trans (by rw [g4]))
          have hlt16 : (i1 : Int) < 16 := by omega
          have hlt17 : (i2 : Int) < 16 := by omega
          clear f2 f4 f6 f7 g2 g4 g6 g7 hx1
          have HST := Lib.hid hst
          have stl := HT.out.lt
          clear hst
          go_wp2
          exact ⟨⟨trivial, k + 1, by omega, by simp, by rw [HST.out]⟩, by simp [intOf]; omega⟩
        · obtain rfl : k = bs.length := by omega
          rw [List.take_length]
          go_wp2
          exact ⟨⟨trivial, .inr ⟨by simp, rfl⟩⟩, by simp [intOf]⟩
    · have hr0 := crcR_lt (bs := bs) (x := 4294967295) H.out.2 (by decide)
      have e9 : bits BinOp.xor IntKind.u32 IntKind.u32.max ((crcR 4294967295 bs : Nat) : Int) = ((crc bs : Nat) : Int) := bits_xor_u32 4294967295 _ (by decide) hr0
      clear hr0
      go_wp2
      go_ret
      exact ⟨rfl, HG2.out⟩

end Go.Proofs.YtjkkoogfaibhiaaGreatDoor

/- The builtin copy as a run: onto a row that is known whole. No program stands in this text. -/
namespace Go.Proofs.YtjkkoogfaibhiaaGreatDoor
open Go.RowKit

theorem run_copy_sp {P : Program} {w : World} {dT sT ty elem t : TypeId} {g off dLen dCap sLen sCap : Nat} {sp : Option Addr} {cur cs : List Value} (hu : P.underlying dT = some (.slice elem)) (hs : (P.info? elem).map (·.size) = some 1)
    (hg : w.heap[g]? = some (.cells cur.toArray t (0, 0))) (hn : cs.length = Nat.min sLen dLen) (hsrc0 : 0 < cs.length → ∃ ad, sp = some ad ∧ ∀ j v, cs[j]? = some v → w.cell? (ad.add j) = some v) (hfit : off + cs.length ≤ cur.length) (h1 : ∀ v ∈ cs, v.oneCell' = true) :
    ∃ w', (Builtin.copy_ #[dT, sT] ty #[.slice (some ⟨g, off, none⟩) dLen dCap, .slice sp sLen sCap]).run P w = .ok (.int .i64 cs.length) w' ∧ Blk w' g t (splice cur off cs).toArray ∧ w.grownBy w' (some g) := by
  by_cases h0 : cs.length = 0
  · obtain rfl : cs = [] := List.eq_nil_of_length_eq_zero h0
    exact ⟨w, run_copy_none (P := P) w dT sT ty elem _ sp dLen dCap sLen sCap hu hs (by simpa using hn.symm), show _ = _ by simpa [splice] using hg, ⟨rfl, rfl, rfl, Nat.le_refl _, fun _ _ _ => rfl⟩⟩
  · obtain ⟨ad, rfl, hsrc⟩ := hsrc0 (by omega)
    refine ⟨_, run_copy_row (P := P) w dT sT ty elem g off dLen dCap ad sLen sCap cur.toArray t cs hu hs hg hn hsrc (by simpa using hfit) h1, ?_, ⟨rfl, rfl, rfl, by simp [World.setRow], fun k _ hk => setRow_other w g k _ (fun e => hk (by simp [e]))⟩⟩
    have := setRow_heap w g cur.toArray (cur.toArray.toList.take off ++ cs ++ cur.toArray.toList.drop (off + cs.length)).toArray t (0, 0) hg
    show _ = _
    rw [this]
    simp [splice]
theorem Sl.src {w : World} {A : Option Addr} {n : Nat} {xs : List Value} (h : Sl w 1 A n xs) : 0 < xs.length → ∃ ad, A = some ad ∧ ∀ j v, xs[j]? = some v → w.cell? (ad.add j) = some v := by
  intro hx
  have := h.1
  obtain ⟨b, off, rfl, -, hc⟩ := h.2 (by omega)
  exact ⟨_, rfl, fun j v hv => by rw [Addr.add_lit]; exact hc j v hv⟩
end Go.Proofs.YtjkkoogfaibhiaaGreatDoor

/- The seal: low, Fit. -/
namespace Go.Proofs.YtjkkoogfaibhiaaGreatDoor
open Go.RowKit

/-- A sum's bytes, the lowest first. -/
def lowB (x : Nat) : List Int := [((x % 256 : Nat) : Int), ((x / 256 % 256 : Nat) : Int), ((x / 65536 % 256 : Nat) : Int), ((x / 16777216 : Nat) : Int)]
theorem lowB_len (x : Nat) : (lowB x).length = 4 := rfl

theorem low_any (x : Nat) (w : World) (hx : x < 4294967296) :
    Calls Tryz.prog 142 #[.int .u32 x] w fun e w' => e = .returned (.slice (some ⟨w.heap.size, 0, none⟩) 4 4) ∧ Blk w' w.heap.size 5 (bv (lowB x)).toArray ∧ Grew w w' := by
  go_enter Tryz.func142, Tryz.ntmps142
  go_wp2
  go_ret
  refine ⟨by simp, ?_, by (repeat (first | (with_reducible exact (Chg.refl _ _)) | (with_reducible refine Chg.alloc ?_ _) | (with_reducible refine Chg.drew ?_) | (with_reducible refine Chg.drewN ?_ _) | ((with_reducible refine Chg.setCell ?_ ?hp _); (case hp => (intro h; exfalso; simp at h; try omega)))))⟩
  have := Blk.new w 5 (bv (lowB x)).toArray
  simpa [bv, lowB] using this

/-- Bytes, with their number ahead and noughts behind, in m bytes. -/
def fitL (b : List Int) (m : Nat) : List Int := ((b.length % 256 : Nat) : Int) :: ((b.length / 256 % 256 : Nat) : Int) :: (b ++ List.replicate (m - 2 - b.length) 0)
def sealL (b : List Int) (m : Nat) : List Int := fitL b m ++ lowB (crc (fitL b m))
theorem fitL_len {b : List Int} {m : Nat} (h : b.length + 2 ≤ m) : (fitL b m).length = m := by simp [fitL]; omega
theorem sealL_len {b : List Int} {m : Nat} (h : b.length + 2 ≤ m) : (sealL b m).length = m + 4 := by unfold sealL; rw [List.length_append, fitL_len h]; rfl
theorem fitL_byte {b : List Int} {m : Nat} (hb : ∀ x ∈ b, 0 ≤ x ∧ x ≤ 255) : ∀ x ∈ fitL b m, 0 ≤ x ∧ x ≤ 255 := by
  intro x hx
  simp only [fitL, List.mem_cons, List.mem_append, List.mem_replicate] at hx
  rcases hx with rfl | rfl | hx | ⟨-, rfl⟩
  · omega
  · omega
  · exact hb x hx
  · omega
theorem lowB_byte {x : Nat} (hx : x < 4294967296) : ∀ y ∈ lowB x, 0 ≤ y ∧ y ≤ 255 := by
  intro y hy
  simp only [lowB, List.mem_cons, List.not_mem_nil, or_false] at hy
  rcases hy with rfl | rfl | rfl | rfl <;> omega
theorem crc_lt {bs : List Int} (h : ∀ x ∈ bs, 0 ≤ x ∧ x ≤ 255) : crc bs < 4294967296 := xor_lt32 (by decide) (crcR_lt h (by decide))
theorem sealL_byte {b : List Int} {m : Nat} (hb : ∀ x ∈ b, 0 ≤ x ∧ x ≤ 255) : ∀ x ∈ sealL b m, 0 ≤ x ∧ x ≤ 255 := by
  intro x hx
  rcases List.mem_append.1 hx with hx | hx
  · exact fitL_byte hb x hx
  · exact lowB_byte (crc_lt (fitL_byte hb)) x hx

theorem Blk.own {w : World} {g : Nat} {t : TypeId} {cs : Array Value} (h : Blk w g t cs) (hm : cs.size ≤ maxLen) {n : Nat} (hn : n ≤ cs.size) : w.ownsRow 0 t 1 (.slice (some ⟨g, 0, none⟩) n cs.size) n (cs.toList.take n) :=
  ⟨by simp; omega, .inr ⟨g, cs.size, cs, rfl, Nat.zero_le _, h, hn, hm, by simp, by simp⟩⟩
theorem Blk.setRow {w : World} {g : Nat} {t : TypeId} {cs : Array Value} (h : Blk w g t cs) (cs' : Array Value) : Blk (w.setRow g cs') g t cs' ∧ Chg (fun j => j = g) w (w.setRow g cs') := by
  refine ⟨setRow_heap w g cs cs' t (0, 0) h, ⟨rfl, rfl, rfl, by simp [World.setRow], fun k hk hne => setRow_other w g k cs' hne⟩⟩

theorem blk_two {w : World} {g : Nat} {t : TypeId} {x y : Value} {l : List Value} (h : Blk w g t (x :: y :: l).toArray) (u v : Value) : ((w.setCell ⟨g, 0, none⟩ u).setCell ⟨g, 1, none⟩ v).heap[g]? = some (.cells (u :: v :: l).toArray t (0, 0)) := by
  have := (h.put 0 u).put 1 v
  simpa [Blk] using this
theorem below_two {w0 w : World} {g : Nat} (h : Grew w0 w) (hg : w0.heap.size = g) (u v : Value) : Below g w0 ((w.setCell ⟨g, 0, none⟩ u).setCell ⟨g, 1, none⟩ v) := by
  subst hg
  exact Grew.below ((Chg.setCell h (p := ⟨w0.heap.size, 0, none⟩) (fun e => absurd e (Nat.lt_irrefl _)) u).setCell (p := ⟨w0.heap.size, 1, none⟩) (fun e => absurd e (Nat.lt_irrefl _)) v)
/-- The row behind the copy. -/
theorem fit_row {b : List Int} {m : Nat} (hm : b.length + 2 ≤ m) {x y : Int} (hx : x = ((b.length % 256 : Nat) : Int)) (hy : y = ((b.length / 256 % 256 : Nat) : Int)) :
    splice (.int .u8 x :: .int .u8 y :: bv (List.replicate (m + 2) 0)) 2 (bv b) = bv (fitL b m ++ [0, 0, 0, 0]) := by
  subst hx hy
  have e : m + 2 = b.length + ((m - 2 - b.length) + 4) := by omega
  rw [e]
  simp only [splice, fitL, bv, List.map_cons, List.map_append, List.cons_append, List.take_succ_cons, List.take_zero, List.nil_append, List.length_map, List.map_replicate]
  rw [show 2 + b.length = b.length + 1 + 1 from by omega, List.drop_succ_cons, List.drop_succ_cons, List.drop_replicate, show b.length + (m - 2 - b.length + 4) - b.length = (m - 2 - b.length) + 4 from by omega, ← List.replicate_append_replicate]
  simp [List.replicate]

set_option maxRecDepth 100000 in
set_option maxHeartbeats 3200000 in
theorem fit_ok (b : List Int) (m : Nat) (A : Option Addr) (c : Nat) (w : World) (hm : b.length + 2 ≤ m) (hm2 : m + 4 ≤ 65536) (hs : Sl w 1 A b.length (bv b)) (hb : ∀ x ∈ b, 0 ≤ x ∧ x ≤ 255) :
    Calls Tryz.prog 110 #[.slice A b.length c, .int .i64 ((m + 4 : Nat) : Int)] w fun e w' => OwnOut w w' 5 1 (m + 4) (bv (sealL b m)) (fun A c => .tuple #[.slice A (m + 4) c, .bool true]) e := by
  obtain ⟨i0, hi0, hz0, hz1, hz2⟩ := info_parts u8Info
  have hmk := run_makeSlice (P := Tryz.prog) w 34 5 i0 (.int .u8 0) Tryz.underlying34 hi0 hz0 .i64 .i64 (m : Int) ((m + 4 : Nat) : Int) (by omega) (by omega) (by rw [hz1]; simp; omega) (by rw [hz2]; omega) (by omega)
  obtain ⟨W1, hW1⟩ : ∃ W1, w.alloc (.cells (madeCells (Value.int .u8 0).cells (((m + 4 : Nat) : Int).toNat * i0.size)) 5) = W1 := ⟨_, rfl⟩
  rw [hW1] at hmk
  have hB1 : Blk W1 w.heap.size 5 (.int .u8 0 :: .int .u8 0 :: bv (List.replicate (m + 2) 0)).toArray := by
    have := Blk.new w 5 (madeCells (Value.int .u8 0).cells (((m + 4 : Nat) : Int).toNat * i0.size))
    rw [hW1] at this
    have e : madeCells (Value.int .u8 0).cells (((m + 4 : Nat) : Int).toNat * i0.size) = (.int .u8 0 :: .int .u8 0 :: bv (List.replicate (m + 2) 0)).toArray := by
      apply Array.toList_inj.1
      rw [show (Value.int .u8 0).cells = #[.int .u8 0] from rfl, hz1, Nat.mul_one, Int.toNat_natCast, toList_madeCells_one, show m + 4 = m + 2 + 1 + 1 from rfl, List.replicate_succ, List.replicate_succ]
      simp [bv]
    rw [e] at this
    exact this
  have hG1 : Grew w W1 := hW1 ▸ (Chg.refl _ _).alloc _
  obtain ⟨g, hg⟩ : ∃ g, w.heap.size = g := ⟨_, rfl⟩
  rw [hg] at hmk hB1
  simp only [Int.toNat_natCast] at hmk
  have c00 : W1.cell? ⟨g, 0, none⟩ = some (.int .u8 0) := by rw [hB1.cell]; rfl
  have c01 : W1.cell? ⟨g, 1, none⟩ = some (.int .u8 0) := by rw [hB1.cell]; rfl
  have f00 := hB1.frozen 0
  have f01 := hB1.frozen 1
  have s00 := hB1.lt
  obtain ⟨sz, hsz⟩ : ∃ sz, m + 4 = sz := ⟨_, rfl⟩
  obtain ⟨N, hN⟩ : ∃ N : Value → Value → World, ∀ u v, (Builtin.copy_ #[34, 34] 3 #[.slice (some ⟨g, 2, none⟩) (m - 2) (sz - 2), .slice A b.length c]).run Tryz.prog ((W1.setCell ⟨g, 0, none⟩ u).setCell ⟨g, 1, none⟩ v) = .ok (.int .i64 b.length) (N u v) ∧ Blk (N u v) g 5 (splice (u :: v :: bv (List.replicate (m + 2) 0)) 2 (bv b)).toArray ∧ Grew w (N u v) := by
    have h : ∀ u v, ∃ w', (Builtin.copy_ #[34, 34] 3 #[.slice (some ⟨g, 2, none⟩) (m - 2) (sz - 2), .slice A b.length c]).run Tryz.prog ((W1.setCell ⟨g, 0, none⟩ u).setCell ⟨g, 1, none⟩ v) = .ok (.int .i64 b.length) w' ∧ Blk w' g 5 (splice (u :: v :: bv (List.replicate (m + 2) 0)) 2 (bv b)).toArray ∧ Grew w w' := fun u v => by
      have hc := (hG1.setCell (p := ⟨g, 0, none⟩) (fun e => absurd e (by simp only; omega)) u).setCell (p := ⟨g, 1, none⟩) (fun e => absurd e (by simp only; omega)) v
      obtain ⟨w', h1, h2, h3⟩ := run_copy_sp (P := Tryz.prog) (ty := 3) (sT := 34) (dLen := m - 2) (dCap := sz - 2) (sLen := b.length) (sCap := c) (sp := A) (off := 2) (cs := bv b) Tryz.underlying34 (by kernel_rfl) (blk_two hB1 u v) (by rw [bv_len]; exact (Nat.min_eq_left (by omega)).symm) (hs.grew hc).src (by rw [bv_len]; simp only [List.length_cons, bv_len, List.length_replicate]; omega) (bv_one b)
      rw [bv_len] at h1
      exact ⟨w', h1, h2, hc.grown h3 fun k hk hlt => by simp at hk; omega⟩
    exact ⟨fun u v => (h u v).choose, fun u v => (h u v).choose_spec⟩
  have hcp := fun u v => (hN u v).1
  have HN := Lib.hid (fun u v => (hN u v).2)
  clear hN
  rw [hsz] at hmk hm2 ⊢
  have H := Lib.hid (And.intro hs hb)
  have Hsz := Lib.hid hsz
  have HB := Lib.hid hB1
  have HG := Lib.hid hG1
  have Hg := Lib.hid hg
  have HM := Lib.hid hm
  have HM2 := Lib.hid hm2
  have a1 : decide ((sz : Int) < 6) = false := decide_eq_false (by omega)
  have a2 : decide ((65536 : Int) < (sz : Int)) = false := decide_eq_false (by omega)
  have a4 : decide ((sz : Int) - 6 < (b.length : Int)) = false := decide_eq_false (by omega)
  have a5 : (sz : Int) - 4 = (m : Int) := by omega
  have hm6 : 2 ≤ m := by omega
  clear hW1 hB1 hG1 hg hs hb hsz
  go_enter Tryz.func110, Tryz.ntmps110
  go_wp2_with fail
  have HF := Lib.hid (HN.out (.int .u8 ((b.length : Int) % 256)) (.int .u8 ((b.length : Int) / 256)))
  obtain ⟨W2, hW2⟩ : ∃ W2, N (.int .u8 ((b.length : Int) % 256)) (.int .u8 ((b.length : Int) / 256)) = W2 := ⟨_, rfl⟩
  rw [hW2] at HF ⊢
  clear hW2 hcp HN c00 c01 f00 f01 s00 hmk
  have HB2 := Lib.hid (show Blk W2 g 5 (bv (fitL b m ++ [0, 0, 0, 0])).toArray from by have := HF.out.1; rwa [fit_row HM.out (by omega) (by omega)] at this)
  have hfl := fitL_len HM.out
  have HFL := Lib.hid hfl
  have HO2 := Lib.hid (show W2.ownsRow g 5 1 (.slice (some ⟨g, 0, none⟩) m sz) m (bv (fitL b m)) from ⟨by rw [bv_len, hfl]; omega, .inr ⟨g, sz, (bv (fitL b m ++ [0, 0, 0, 0])).toArray, rfl, Nat.le_refl _, HB2.out, by have := Hsz.out; omega, by have := HM2.out; simp only [maxLen]; omega, by have := Hsz.out; simp [bv, hfl]; omega, by simp only [bv, List.map_append, Nat.mul_one]; rw [List.take_left' (by simpa using hfl)]⟩⟩)
  clear hfl
  refine (sum_any (fitL b m) _ (some ⟨g, 0, none⟩) _ sz _ ⟨_, 0, rfl, by simp, by have := (Blk.new W2 34 #[.slice (some ⟨g, 0, none⟩) m sz]).cell 0; rw [HFL.out]; exact this⟩ (by rw [HFL.out]; exact (Sl.of_own (own_base HO2.out (Nat.zero_le _))).grew ((Chg.refl _ _).alloc _)) (fitL_byte H.out.2) (by rw [HFL.out]; have := HM2.out; have := Hsz.out; omega)).mono ?_
  rintro e w3 ⟨rfl, hg3⟩
  have HG3 := Lib.hid (show Grew W2 w3 from Grew.trans ((Chg.refl _ _).alloc _) hg3)
  clear hg3
  go_wp2_with fail
  refine (low_any (crc (fitL b m)) _ (crc_lt (fitL_byte H.out.2))).mono ?_
  rintro e w4 ⟨rfl, hb4, hg4⟩
  have HL := Lib.hid (And.intro hb4 (Grew.trans HG3.out hg4))
  obtain ⟨l4, hl4⟩ : ∃ l4, w3.heap.size = l4 := ⟨_, rfl⟩
  rw [hl4] at HL ⊢
  clear hb4 hg4 hl4
  have k1 : ∀ j u, (bv (lowB (crc (fitL b m))))[j]? = some u → w4.cell? ((⟨l4, 0, none⟩ : Addr).add j) = some u := by intro j u hu; rw [Addr.add_lit, Nat.zero_add, HL.out.1.cell]; simpa using hu
  have k2 : m + 4 ≤ maxLen := by have := HM2.out; have := Hsz.out; simp only [maxLen]; omega
  have k3 : (m + 4) * 1 ≤ 140737488355328 := by have := HM2.out; have := Hsz.out; omega
  have k4 : g ≤ w4.heap.size := by have := HL.out.2.size; have := HB2.out.lt; omega
  have K := Lib.hid (And.intro k1 (And.intro k2 (And.intro k3 k4)))
  clear k1 k2 k3 k4
  go_wp2_with (at_builtin; (refine wpList_append_own _ rfl _ _ _ rfl g 5 i0 _ 1 1 Tryz.underlying34 hi0 hz0 hz1 hz2 rfl (by omega) (.slice (some ⟨g, 0, none⟩) m sz) m (bv (fitL b m)) rfl (own_grew HO2.out HL.out.2) ⟨l4, 0, none⟩ 4 4 (bv (lowB (crc (fitL b m)))) rfl (by simp [bv, lowB]) K.out.1 (bv_one _) K.out.2.1 K.out.2.2.1 K.out.2.2.2 ?_); intro v1 w5 hown1 hgrow hnil; have HO5 := Lib.hid hown1; have HG5 := Lib.hid hgrow; clear hown1 hgrow hnil)
  go_ret2
  obtain ⟨A', c', rfl, -⟩ := own_shape HO5.out
  have hsz := Hsz.out
  have hg := Hg.out
  subst hsz
  refine OwnOut.mk A' c' rfl ?_ ?_
  · have := HO5.out
    rw [hg]
    simpa [sealL, bv] using this
  · exact (Grew.trans HF.out.2 HL.out.2).grown HG5.out (fun k hk hlt => by simp [Value.ownBlock] at hk; omega)

end Go.Proofs.YtjkkoogfaibhiaaGreatDoor

/- The seal: bytes.Equal; Part. -/
namespace Go.Proofs.YtjkkoogfaibhiaaGreatDoor
open Go.RowKit

/-- string(b). -/
theorem conv_bytes {w : World} {A : Option Addr} {bs : List Int} {c : Nat} (h : Sl w 1 A bs.length (bv bs)) :
    (convert 34 9 (.slice A bs.length c)).run Tryz.prog w = .ok (.string (strOfNums bs)) w := by
  rcases A with _ | a
  · have h0 : bs = [] := by
      cases bs with
      | nil => rfl
      | cons b l => obtain ⟨b, off, e, -⟩ := h.2 (by simp); cases e
    subst h0
    exact run_convert_bytes_nil w 34 5 Tryz.underlying34 (by kernel_rfl) 0 c 9 (by kernel_rfl)
  · rcases Nat.eq_zero_or_pos bs.length with h0 | h0
    · obtain rfl : bs = [] := List.eq_nil_of_length_eq_zero h0
      have hl : (loadCells a 0).run Tryz.prog w = .ok #[] w := by simpa using run_loadCells_list (P := Tryz.prog) w a [] (fun j v hv => by simp at hv)
      rw [List.length_nil, run_convert_bytes_string w _ _ 5 _ 0 c Tryz.underlying34 (by kernel_rfl) (by kernel_rfl)]
      simp [Conv.bytesToString, hl, strOfNums, Result.andThen]
      rfl
    · obtain ⟨b, off, e, hb, hx⟩ := h.2 h0
      cases e
      refine run_convert_bytes_arg w 34 5 Tryz.underlying34 (by kernel_rfl) b off bs.length c bs rfl (fun i hi => ?_) 9 (by kernel_rfl)
      exact hx i _ (by simp [bv, List.getD_eq_getElem?_getD, hi])

/-- The same bytes? -/
def eqB (a b : List Int) : Bool := (strOfNums a).toList == (strOfNums b).toList
theorem byte_inj {x y : Int} (hx : 0 ≤ x ∧ x ≤ 255) (hy : 0 ≤ y ∧ y ≤ 255) (h : UInt8.ofNat x.toNat = UInt8.ofNat y.toNat) : x = y := by
  have := congrArg UInt8.toNat h
  simp only [UInt8.toNat_ofNat'] at this
  omega
theorem eqB_eq {a b : List Int} (ha : ∀ x ∈ a, 0 ≤ x ∧ x ≤ 255) (hb : ∀ x ∈ b, 0 ≤ x ∧ x ≤ 255) : eqB a b = decide (a = b) := by
  unfold eqB
  rw [ByteArray.toList_eq, ByteArray.toList_eq, strOfNums_data, strOfNums_data, Bool.eq_iff_iff]
  simp only [beq_iff_eq, decide_eq_true_eq]
  refine ⟨fun h => ?_, fun h => by rw [h]⟩
  induction a generalizing b with
  | nil => cases b with
    | nil => rfl
    | cons y b => simp at h
  | cons x a ih => cases b with
    | nil => simp at h
    | cons y b =>
      simp only [List.map_cons, List.cons.injEq] at h
      rw [byte_inj (ha x (by simp)) (hb y (by simp)) h.1, ih (fun z hz => ha z (by simp [hz])) (fun z hz => hb z (by simp [hz])) h.2]
theorem beq_any (A B : Option Addr) (a b : List Int) (c d : Nat) (w : World) (h : Sl w 1 A a.length (bv a)) (k : Sl w 1 B b.length (bv b)) :
    Calls Tryz.prog 122 #[.slice A a.length c, .slice B b.length d] w fun e w' => e = .returned (.bool (eqB a b)) ∧ w = w' := by
  have h1 := conv_bytes (c := c) h
  have h2 := conv_bytes (c := d) k
  clear h k
  go_enter Tryz.func122, Tryz.ntmps122
  go_wp2
  go_ret
  exact ⟨rfl, rfl⟩

theorem or_le2 (x0 x1 : Nat) (h0 : x0 < 256) (h1 : x1 < 256) : bits BinOp.or IntKind.i64 (x0 : Int) ((x1 : Int) * 256) = ((x0 + 256 * x1 : Nat) : Int) := by
  have e : (x1 : Int) * 256 = ((256 * x1 : Nat) : Int) := by omega
  rw [e]
  have a1 : (BitVec.ofInt 64 (x0 : Int)).toNat = x0 := by rw [BitVec.ofInt_natCast, BitVec.toNat_ofNat]; exact Nat.mod_eq_of_lt (by omega)
  have a2 : (BitVec.ofInt 64 ((256 * x1 : Nat) : Int)).toNat = 256 * x1 := by rw [BitVec.ofInt_natCast, BitVec.toNat_ofNat]; exact Nat.mod_eq_of_lt (by omega)
  show IntKind.i64.wrap ((BitVec.ofInt 64 (x0 : Int) ||| BitVec.ofInt 64 ((256 * x1 : Nat) : Int)).toNat : Int) = _
  have hor : x0 ||| 256 * x1 = x0 + 256 * x1 := by
    have := Nat.two_pow_add_eq_or_of_lt (i := 8) (b := x0) (by omega) x1
    rw [Nat.or_comm, Nat.add_comm]
    exact this.symm
  rw [BitVec.toNat_or, a1, a2, hor]
  exact wrap_nat (by omega)

theorem fit_no (n : Nat) (sz : Int) (A : Option Addr) (c : Nat) (w : World) (hn : n ≤ 1000000) (hs : sz ≤ 1000000) (h0 : 0 ≤ sz) (h : sz < 6 ∨ 65536 < sz ∨ sz - 6 < n) :
    Calls Tryz.prog 110 #[.slice A n c, .int .i64 sz] w fun e w' => e = .returned (.tuple #[.slice none 0 0, .bool false]) ∧ w = w' := by
  by_cases h1 : sz < 6
  · have a1 : decide (sz < 6) = true := decide_eq_true h1
    clear h h1
    go_enter Tryz.func110, Tryz.ntmps110
    go_wp2
    go_ret2
    exact ⟨rfl, rfl⟩
  have a1 : decide (sz < 6) = false := decide_eq_false h1
  by_cases h2 : 65536 < sz
  · have a2 : decide (65536 < sz) = true := decide_eq_true h2
    clear h h1 h2
    go_enter Tryz.func110, Tryz.ntmps110
    go_wp2
    go_ret2
    exact ⟨rfl, rfl⟩
  · have a2 : decide (65536 < sz) = false := decide_eq_false h2
    have a3 : decide (sz - 6 < (n : Int)) = true := decide_eq_true (by omega)
    clear h h1 h2
    go_enter Tryz.func110, Tryz.ntmps110
    go_wp2
    go_ret2
    exact ⟨rfl, rfl⟩

/-- The number ahead. -/
def cntL (b : List Int) : Nat := (b[0]?.getD 0).toNat + 256 * (b[1]?.getD 0).toNat
/-- What is in sealed bytes of a size. -/
def partL (b : List Int) : Option (List Int) := if b.length - 6 < cntL b then none else if eqB (sealL ((b.drop 2).take (cntL b)) (b.length - 4)) b then some ((b.drop 2).take (cntL b)) else none
/-- What Part leaves. -/
def PartOut (w w' : World) (o : Option (List Int)) (e : Ending) : Prop :=
  match o with
  | none => e = .returned (.tuple #[.slice none 0 0, .bool false]) ∧ Grew w w'
  | some x => OwnOut w w' 5 1 x.length (bv x) (fun A c => .tuple #[.slice A x.length c, .bool true]) e

set_option maxRecDepth 100000 in
set_option maxHeartbeats 1600000 in
theorem part_any (b : List Int) (A : Option Addr) (c : Nat) (w : World) (h6 : 6 ≤ b.length) (hm : b.length ≤ 65536) (hs : Sl w 1 A b.length (bv b)) (hb : ∀ x ∈ b, 0 ≤ x ∧ x ≤ 255) (hc : b.length ≤ c) :
    Calls Tryz.prog 117 #[.slice A b.length c] w fun e w' => PartOut w w' (partL b) e := by
  obtain ⟨g, off, rfl, hg, hx⟩ := hs.2 (by omega)
  obtain ⟨y0, e0⟩ : ∃ y, b[0]? = some y := ⟨_, List.getElem?_eq_getElem (by omega)⟩
  obtain ⟨y1, e1⟩ : ∃ y, b[1]? = some y := ⟨_, List.getElem?_eq_getElem (by omega)⟩
  have b0 := hb _ (List.mem_of_getElem? e0)
  have b1 := hb _ (List.mem_of_getElem? e1)
  have d0 := hx 0 (.int .u8 y0) (by simp [bv, e0])
  have d1 := hx 1 (.int .u8 y1) (by simp [bv, e1])
  obtain ⟨x0, rfl⟩ := Int.eq_ofNat_of_zero_le b0.1
  obtain ⟨x1, rfl⟩ := Int.eq_ofNat_of_zero_le b1.1
  have hcn : cntL b = x0 + 256 * x1 := by unfold cntL; rw [e0, e1]; rfl
  have k0 : (0 : Int) < (b.length : Int) := by omega
  have k1 : (1 : Int) < (b.length : Int) := by omega
  have n0 : 0 < b.length := by omega
  have n1 : 1 < b.length := by omega
  rw [Nat.add_zero] at d0
  have hor := or_le2 x0 x1 (by omega) (by omega)
  rw [← hcn] at hor
  obtain ⟨n, hn⟩ : ∃ n, cntL b = n := ⟨_, rfl⟩
  rw [hn] at hor
  have HC := Lib.hid hn
  have HS := Lib.hid (And.intro hs hb)
  have a1 : decide ((b.length : Int) < 6) = false := decide_eq_false (by omega)
  have a2 : decide ((65536 : Int) < (b.length : Int)) = false := decide_eq_false (by omega)
  by_cases hle : b.length - 6 < n
  · have hp : partL b = none := by unfold partL; rw [hn, if_pos hle]
    rw [hp]
    have a3 : decide ((b.length : Int) - 6 < (n : Int)) = true := decide_eq_true (by omega)
    clear e0 e1 hs hb hx hcn hp hle hn
    go_enter Tryz.func117, Tryz.ntmps117
    go_wp2
    go_quiet (fail)
    go_wp2
    go_ret2
    exact ⟨rfl, (Chg.refl _ _).drewN _⟩
  · have a3 : decide ((b.length : Int) - 6 < (n : Int)) = false := decide_eq_false (by omega)
    have hnc : (2 : Int) + (n : Int) ≤ (c : Int) := by omega
    have hnb : n ≤ 65536 := by omega
    have hT : ((2 : Int) + (n : Int)).toNat - 2 = n := by omega
    have HZ := Lib.hid (show b.length - 4 + 4 = b.length from by omega)
    obtain ⟨out, ho⟩ : ∃ out, (b.drop 2).take n = out := ⟨_, rfl⟩
    have hol : out.length = n := by rw [← ho, List.length_take, List.length_drop]; omega
    have hbyte : ∀ x ∈ out, 0 ≤ x ∧ x ≤ 255 := fun x hx => hb x (List.mem_of_mem_drop (List.mem_of_mem_take (ho ▸ hx)))
    have hso : Sl w 1 (some ⟨g, off + 2, none⟩) n (bv out) := ⟨by rw [bv_len, hol]; omega, fun _ => ⟨g, off + 2, rfl, hg, fun j u hu => by
      rw [← ho] at hu
      have hj : j < n := by have := (List.getElem?_eq_some_iff.1 hu).1; rw [bv_len, List.length_take] at this; omega
      rw [Nat.add_assoc]
      refine hx (2 + j) u ?_
      rw [← hu]
      simp [bv, List.getElem?_take, hj, List.getElem?_drop]⟩⟩
    have hp : partL b = if eqB (sealL out (b.length - 4)) b then some out else none := by unfold partL; rw [hn, if_neg hle, ho]
    have hm1 : out.length + 2 ≤ b.length - 4 := by omega
    have hcl : ∀ w', Grew w w' → Calls Tryz.prog 97 #[.slice (some ⟨g, off + 2, none⟩) n (c - 2)] w' fun e w2 => OwnOut w' w2 5 1 n (bv out) (fun A c => .slice A n c) e := fun w' h => by
      have := bclone_any (some ⟨g, off + 2, none⟩) (by simp) out (c - 2) w' (by omega) (by rw [hol]; exact hso.grew h)
      rwa [hol] at this
    have hft : ∀ A c w', Sl w' 1 A n (bv out) → Calls Tryz.prog 110 #[.slice A n c, .int .i64 (b.length : Int)] w' fun e w2 => OwnOut w' w2 5 1 b.length (bv (sealL out (b.length - 4))) (fun A c => .tuple #[.slice A b.length c, .bool true]) e := fun A c w' h => by
      have := fit_ok out (b.length - 4) A c w' (by omega) (by omega) (by rw [hol]; exact h) hbyte
      rwa [hol, show b.length - 4 + 4 = b.length from by omega] at this
    have hsl := sealL_len (b := out) (m := b.length - 4) (by omega)
    rw [show b.length - 4 + 4 = b.length from by omega] at hsl
    have heq : ∀ A c B c' w', Sl w' 1 A b.length (bv (sealL out (b.length - 4))) → Sl w' 1 B b.length (bv b) → Calls Tryz.prog 122 #[.slice A b.length c, .slice B b.length c'] w' fun e w2 => e = .returned (.bool (eqB (sealL out (b.length - 4)) b)) ∧ w' = w2 := fun A c B c' w' h k => by
      have := beq_any A B (sealL out (b.length - 4)) b c c' w' (by rw [hsl]; exact h) k
      rwa [hsl] at this
    obtain ⟨q, hq⟩ : ∃ q, eqB (sealL out (b.length - 4)) b = q := ⟨_, rfl⟩
    rw [hq] at hp heq
    rw [hp]
    have HCL := Lib.hid (And.intro hcl (And.intro hft heq))
    have HX := Lib.hid (And.intro hso (And.intro hbyte (And.intro hol hm1)))
    clear e0 e1 hs hb hx hcn hp hle hn ho hso hbyte hol hm1 hcl hft heq hsl hq
    cases q
    all_goals
      go_enter Tryz.func117, Tryz.ntmps117
      go_wp2
      go_quiet (fail)
      go_wp2_with (fail)
      refine (HCL.out.1 _ ((Chg.refl _ _).drewN _)).mono ?_
      rintro e w2 ⟨A2, c2, rfl, ho2, hg2⟩
      have HO2 := Lib.hid (And.intro ho2 (Grew.trans ((Chg.refl _ _).drewN _) hg2))
      clear ho2 hg2
      go_wp2_with (fail)
      refine (HCL.out.2.1 A2 c2 _ (Sl.of_own (own_base HO2.out.1 (Nat.zero_le _)))).mono ?_
      rintro e w3 ⟨A3, c3, rfl, ho3, hg3⟩
      have HO3 := Lib.hid (And.intro ho3 (And.intro hg3 (Grew.trans HO2.out.2 hg3)))
      clear ho3 hg3
      go_wp2_with (fail)
      refine (HCL.out.2.2 A3 c3 _ c _ (Sl.of_own (own_base HO3.out.1 (Nat.zero_le _))) (HS.out.1.grew HO3.out.2.2)).mono ?_
      rintro e w4 ⟨rfl, rfl⟩

      go_wp2
      go_ret2
    · exact ⟨rfl, HO3.out.2.2⟩
    · show OwnOut _ _ _ _ _ _ _ _
      rw [HX.out.2.2.1]
      exact OwnOut.mk A2 c2 rfl (own_grew (own_base HO2.out.1 (by simp)) HO3.out.2.1) HO3.out.2.2

end Go.Proofs.YtjkkoogfaibhiaaGreatDoor

/- The roots: slices.Repeat; slices.ContainsFunc; Right. -/
namespace Go.Proofs.YtjkkoogfaibhiaaGreatDoor
open Go.RowKit

theorem mul64_one (n : Nat) (w : World) (h : n ≤ 64) : Calls Tryz.prog 162 #[.int .u64 1, .int .u64 n] w fun e w' => e = .returned (.tuple #[.int .u64 0, .int .u64 n]) ∧ w = w' := by
  have f1 : bits BinOp.and IntKind.u64 1 4294967295 = 1 := by decide +kernel
  have f2 : bits BinOp.and IntKind.u64 (n : Int) 4294967295 = (n : Int) := by
    have : ∀ k : Fin 65, bits BinOp.and IntKind.u64 ((k.1 : Nat) : Int) 4294967295 = ((k.1 : Nat) : Int) := by decide +kernel
    exact this ⟨n, by omega⟩
  have f3 : (n : Int) / 4294967296 = 0 := by omega
  have f4 : bits BinOp.and IntKind.u64 0 4294967295 = 0 := by decide +kernel
  go_enter Tryz.func162, Tryz.ntmps162
  go_wp2
  go_ret2
  exact ⟨rfl, rfl⟩
theorem mul_one (n : Nat) (w : World) (h : n ≤ 64) : Calls Tryz.prog 146 #[.int .u64 1, .int .u64 n] w fun e w' => e = .returned (.tuple #[.int .u64 0, .int .u64 n]) ∧ w = w' := by
  go_enter Tryz.func146, Tryz.ntmps146
  go_wp2_with (go_at_call 162; refine (mul64_one n _ h).mono ?_; rintro e w1 ⟨rfl, rfl⟩)
  go_ret2
  exact ⟨rfl, rfl⟩

theorem i64Info : (Tryz.prog.info? 3).map (fun i => (i.zero, i.size, i.bytes)) = some (some (.int .i64 0), 1, 8) := by kernel_rfl
/-- make([]int, n). -/
theorem make_ints (n : Nat) (w : World) (hn : n ≤ 1000000) : ∃ w', (Instr.makeSlice 39 (.int .i64 n) (.int .i64 n)).run Tryz.prog w = .ok (.slice (some ⟨w.heap.size, 0, none⟩) n n) w' ∧ Blk w' w.heap.size 3 (nv (List.replicate n 0)).toArray ∧ Grew w w' ∧ w'.heap.size = w.heap.size + 1 := by
  obtain ⟨i0, hi0, hz0, hz1, hz2⟩ := info_parts i64Info
  have hr := run_makeSlice (P := Tryz.prog) w 39 3 i0 (.int .i64 0) Tryz.underlying39 hi0 hz0 .i64 .i64 n n (by omega) (by omega) (by rw [hz1]; simp; omega) (by rw [hz2]; omega) (by omega)
  refine ⟨_, hr, ?_, (Chg.refl _ _).alloc _, by simp⟩
  have := Blk.new w 3 (madeCells (Value.int .i64 0).cells ((n : Int).toNat * i0.size))
  have e : madeCells (Value.int .i64 0).cells ((n : Int).toNat * i0.size) = (nv (List.replicate n 0)).toArray := by
    apply Array.toList_inj.1
    rw [show (Value.int .i64 0).cells = #[.int .i64 0] from rfl, hz1, Nat.mul_one, Int.toNat_natCast, toList_madeCells_one]
    simp [nv]
  rw [e] at this ⊢
  exact this

theorem splice_rep (n c m a : Nat) (hm : m = if n - c < c then n - c else c) (hc : c ≤ n) : splice (nv (List.replicate c a ++ List.replicate (n - c) 0)) c (nv (List.replicate m a)) = nv (List.replicate (c + m) a ++ List.replicate (n - (c + m)) 0) := by
  have hmn : m ≤ n - c := by rw [hm]; split <;> omega
  simp only [splice, nv, List.map_append, List.map_replicate, List.length_replicate]
  rw [List.take_left' (by simp), ← List.replicate_append_replicate, List.append_assoc, show c + m = (List.replicate c (Value.int IntKind.i64 (a : Int))).length + m from by simp, List.drop_length_add_append, List.drop_replicate, List.length_replicate, Nat.sub_sub]

set_option maxRecDepth 100000 in
set_option maxHeartbeats 1600000 in
theorem repeat_any (n a g0 cp : Nat) (w : World) (hn : n ≤ 64) (hb : Blk w g0 3 #[.int .i64 a]) :
    Calls Tryz.prog 116 #[.slice (some ⟨g0, 0, none⟩) 1 cp, .int .i64 n] w fun e w' => OwnOut w w' 3 1 n (nv (List.replicate n a)) (fun A c => .slice A n c) e := by
  obtain ⟨W1, hmk, hB1, hG1, -⟩ := make_ints n w (by omega)
  obtain ⟨g, hg⟩ : ∃ g, w.heap.size = g := ⟨_, rfl⟩
  rw [hg] at hmk hB1
  obtain ⟨w0, rfl⟩ : ∃ w0 : World, w0 = w := ⟨_, rfl⟩
  have hsrc1 := hb.grew hG1
  obtain ⟨W2, hcp, hB2, hg2⟩ := run_copy_sp (P := Tryz.prog) (ty := 3) (sT := 39) (dLen := n) (dCap := n) (sLen := 1) (sCap := cp) (sp := some ⟨g0, 0, none⟩) (off := 0) (cs := nv (List.replicate (if n < 1 then n else 1) a)) Tryz.underlying39 (by kernel_rfl) hB1
    (by rw [nv_len, List.length_replicate]; show _ = min _ _; rw [Nat.min_def]; split <;> split <;> omega)
    (fun _ => ⟨_, rfl, fun j v hv => by
      have hj : j = 0 := by have := (List.getElem?_eq_some_iff.1 hv).1; rw [nv_len, List.length_replicate] at this; split at this <;> omega
      subst hj
      have hn0 : ¬ n < 1 := by have := (List.getElem?_eq_some_iff.1 hv).1; rw [nv_len, List.length_replicate] at this; split at this <;> omega
      rw [Addr.add_lit, hsrc1.cell]
      simpa [nv, hn0] using hv⟩) (by rw [nv_len, nv_len, List.length_replicate, List.length_replicate]; split <;> omega) (nv_one _)
  have hB2' : Blk W2 g 3 (nv (List.replicate (if n < 1 then n else 1) a ++ List.replicate (n - (if n < 1 then n else 1)) 0)).toArray := by
    have e := splice_rep n 0 0 a (by simp) (by omega)
    have : splice (nv (List.replicate n 0)) 0 (nv (List.replicate (if n < 1 then n else 1) a)) = nv (List.replicate (if n < 1 then n else 1) a ++ List.replicate (n - (if n < 1 then n else 1)) 0) := by
      simp [splice, nv]
    rw [← this]
    exact hB2
  obtain ⟨m0, hm0⟩ : ∃ m0, (if n < 1 then n else 1) = m0 := ⟨_, rfl⟩
  rw [nv_len, List.length_replicate, hm0] at hcp
  rw [hm0] at hB2'
  have hm1 : m0 ≤ n ∧ (0 < n → 0 < m0) := by rw [← hm0]; split <;> omega
  have HB := Lib.hid (And.intro hB2' (show Grew w0 W2 from hG1.grown hg2 fun k hk hlt => by simp at hk; omega))
  have Hg := Lib.hid hg
  have a1 : decide ((n : Int) < 0) = false := decide_eq_false (by omega)
  clear hB1 hG1 hg hsrc1 hB2 hg2 hm0 hb hB2'
  go_enter Tryz.func116, Tryz.ntmps116
  go_wp2_with (go_at_call 146; refine (mul_one n _ hn).mono ?_; rintro e w1 ⟨rfl, rfl⟩)
  clear hmk hcp
  go_loopw [8] (fun i wr => ∃ k : Nat, k ≤ n ∧ (0 < n → 0 < k) ∧ i = .int .i64 k ∧ Blk wr g 3 (nv (List.replicate k a ++ List.replicate (n - k) 0)).toArray ∧ Grew w0 wr) (fun i _ => n - (intOf i).toNat)
  case atStart => exact ⟨m0, hm1.1, hm1.2, rfl, HB.out.1, HB.out.2⟩
  case round =>
    obtain ⟨k, hk, hk0, rfl, hbr, hgr⟩ := hrel
    by_cases hlt : k < n
    · have hk1 : 0 < k := hk0 (by omega)
      obtain ⟨m, hm⟩ : ∃ m, (if n - k < k then n - k else k) = m := ⟨_, rfl⟩
      have hml : m ≤ n - k ∧ m ≤ k ∧ 0 < m := by rw [← hm]; split <;> omega
      obtain ⟨W3, hcp, hB3, hg3⟩ := run_copy_sp (P := Tryz.prog) (w := wr.drew) (ty := 3) (sT := 39) (dLen := n - k) (dCap := n - k) (sLen := k) (sCap := n) (sp := some ⟨g, 0, none⟩) (off := k) (cs := nv (List.replicate m a)) Tryz.underlying39 (by kernel_rfl) hbr
        (by rw [nv_len, List.length_replicate]; show _ = min _ _; rw [Nat.min_def, ← hm]; split <;> split <;> omega)
        (fun _ => ⟨_, rfl, fun j v hv => by
          have hj : j < m := by have := (List.getElem?_eq_some_iff.1 hv).1; rwa [nv_len, List.length_replicate] at this
          rw [Addr.add_lit, Nat.zero_add, (Blk.drew hbr).cell]
          have : k > j := by omega
          simp [nv, List.getElem?_append, this] at hv ⊢
          simpa [hj] using hv⟩) (by rw [nv_len, nv_len, List.length_append, List.length_replicate, List.length_replicate, List.length_replicate]; omega) (nv_one _)
      rw [splice_rep n k m a hm.symm hk] at hB3
      rw [nv_len, List.length_replicate] at hcp
      have hG3 : Grew w0 W3 := (hgr.drew).grown hg3 fun j hj hlt => by simp at hj; have := Hg.out; omega
      have H3 := Lib.hid (And.intro hB3 hG3)
      have d1 : ((n : Int) - k).toNat = n - k := by omega
      have d2 : (k : Int) ≤ (n : Int) := by omega
      have d3 : ¬ n = k := by omega
      have d4 : IntKind.i64.wrap ((k : Int) + m) = (k : Int) + m := by have := wrap_nat (n := k + m) (by omega); rwa [Int.natCast_add] at this
      clear hbr hgr hB3 hg3 hG3 hm
      go_wp2
      refine wp_region_held_drew (S := fun _ => True) (by kernel_rfl) trivial (fun hHeld => ?_)
      refine wpAnyH_take (i := 0) (v := ?_) rfl (by kernel_rfl) (by kernel_rfl) (by kernel_rfl) (fun _ _ _ h => h) (Or.inl ⟨by rfl, ?_⟩) hHeld ?_
      rotate_left
      · (intro w hSw; (try dsimp only at hSw); go_simp) <;> with_reducible rfl
      (try simp only [Act.put, List.setIfInBounds_toArray, List.set_cons_zero, List.set_cons_succ, List.getElem_toArray, List.getElem_cons_zero, List.getElem_cons_succ])
      refine wpAnyH_take (i := 1) (v := ?_) rfl (by kernel_rfl) (by kernel_rfl) (by kernel_rfl) (fun _ _ _ h => h) (Or.inl ⟨by rfl, ?_⟩) hHeld ?_
      rotate_left
      · (intro w hSw; (try dsimp only at hSw); go_simp) <;> with_reducible rfl
      (try simp only [Act.put, List.setIfInBounds_toArray, List.set_cons_zero, List.set_cons_succ, List.getElem_toArray, List.getElem_cons_zero, List.getElem_cons_succ])
      refine wpAnyH_take (i := 2) (v := ?_) rfl (by kernel_rfl) (by kernel_rfl) (by kernel_rfl) (fun _ _ _ h => h) (Or.inl ⟨by rfl, ?_⟩) hHeld ?_
      rotate_left
      · (intro w hSw; (try dsimp only at hSw); go_simp) <;> with_reducible rfl
      (try simp only [Act.put, List.setIfInBounds_toArray, List.set_cons_zero, List.set_cons_succ, List.getElem_toArray, List.getElem_cons_zero, List.getElem_cons_succ])
      refine wpAnyH_take (i := 3) (v := ?_) rfl (by kernel_rfl) (by kernel_rfl) (by kernel_rfl) (fun _ _ _ h => h) (Or.inl ⟨by rfl, ?_⟩) hHeld ?_
      rotate_left
      · (intro w hSw; (try dsimp only at hSw); go_simp) <;> with_reducible rfl
      (try simp only [Act.put, List.setIfInBounds_toArray, List.set_cons_zero, List.set_cons_succ, List.getElem_toArray, List.getElem_cons_zero, List.getElem_cons_succ])
      refine wpAnyH_take (i := 4) (v := ?_) rfl (by kernel_rfl) (by kernel_rfl) (by kernel_rfl) (fun _ _ _ h => h) (Or.inl ⟨by rfl, ?_⟩) hHeld ?_
      rotate_left
      · (intro w hSw; (try dsimp only at hSw); go_simp) <;> with_reducible rfl
      (try simp only [Act.put, List.setIfInBounds_toArray, List.set_cons_zero, List.set_cons_succ, List.getElem_toArray, List.getElem_cons_zero, List.getElem_cons_succ])
      refine wpAnyH_take (i := 5) (v := ?_) rfl (by kernel_rfl) (by kernel_rfl) (by kernel_rfl) (fun _ _ _ h => h) (Or.inl ⟨by rfl, ?_⟩) hHeld ?_
      rotate_left
      · (intro w hSw; (try dsimp only at hSw); go_simp) <;> with_reducible rfl
      (try simp only [Act.put, List.setIfInBounds_toArray, List.set_cons_zero, List.set_cons_succ, List.getElem_toArray, List.getElem_cons_zero, List.getElem_cons_succ])
      refine wpAnyH_take (i := 6) (v := ?_) rfl (by kernel_rfl) (by kernel_rfl) (by kernel_rfl) (fun _ _ _ h => h) (Or.inl ⟨by rfl, ?_⟩) hHeld ?_
      rotate_left
      · (intro w hSw; (try dsimp only at hSw); go_simp) <;> with_reducible rfl
      (try simp only [Act.put, List.setIfInBounds_toArray, List.set_cons_zero, List.set_cons_succ, List.getElem_toArray, List.getElem_cons_zero, List.getElem_cons_succ])
      refine wpAnyH_ready (rs := [7]) (by kernel_rfl) (by simp) ?_
      refine AllReadyH.cons rfl (fun K hK => ?_) AllReadyH.nil
      go_simp
      refine hK.out _ _ trivial (fun _ => ?_)
      clear hK K
      (try simp only [Act.put, List.setIfInBounds_toArray, List.set_cons_zero, List.set_cons_succ, List.getElem_toArray, List.getElem_cons_zero, List.getElem_cons_succ])
      refine wpAnyH_take (i := 8) (v := ?_) rfl (by kernel_rfl) (by kernel_rfl) (by kernel_rfl) (fun _ _ _ h => h) (Or.inl ⟨by rfl, ?_⟩) hHeld ?_
      rotate_left
      · (intro w hSw; (try dsimp only at hSw); go_simp) <;> with_reducible rfl
      (try simp only [Act.put, List.setIfInBounds_toArray, List.set_cons_zero, List.set_cons_succ, List.getElem_toArray, List.getElem_cons_zero, List.getElem_cons_succ])
      refine wpAnyH_ready (rs := [9]) (by kernel_rfl) (by simp) ?_
      refine AllReadyH.cons rfl (fun K hK => ?_) AllReadyH.nil
      go_simp
      refine hK.out _ _ trivial (fun _ => ?_)
      clear hK K
      (try simp only [Act.put, List.setIfInBounds_toArray, List.set_cons_zero, List.set_cons_succ, List.getElem_toArray, List.getElem_cons_zero, List.getElem_cons_succ])
      refine wpAnyH_done (by kernel_rfl) ?_ _
      go_wp2
      exact ⟨⟨k + m, by omega, fun _ => by omega, by simp, H3.out.1, H3.out.2⟩, by simp [intOf]; omega⟩
    · obtain rfl : k = n := by omega
      have HR := Lib.hid (And.intro hbr hgr)
      clear hbr hgr
      go_wp2
      go_ret
      refine OwnOut.mk (some ⟨g, 0, none⟩) k rfl ?_ HR.out.2
      have h1 := HR.out.1
      simp only [Nat.sub_self, List.replicate_zero, List.append_nil] at h1
      rw [Hg.out]
      refine ⟨by rw [nv_len, List.length_replicate]; omega, .inr ⟨g, k, _, rfl, Nat.le_refl _, h1, Nat.le_refl _, by simp only [maxLen]; omega, by simp [nv], by simp [nv]⟩⟩

end Go.Proofs.YtjkkoogfaibhiaaGreatDoor

/- The pager: Begin. -/
namespace Go.Proofs.YtjkkoogfaibhiaaGreatDoor
open Go.RowKit Go.Maps

set_option maxHeartbeats 800000 in
theorem clone_ints (l : List Nat) (A : Option Addr) (c : Nat) (w : World) (h : w.ownsRow 0 3 1 (.slice A l.length c) l.length (nv l)) (hn : l.length ≤ 1000000) :
    Calls Tryz.prog 49 #[.slice A l.length c] w fun e w' => OwnOut w w' 3 1 l.length (nv l) (fun A c => .slice A l.length c) e := by
  obtain ⟨i0, hi0, hz0, hz1, hz2⟩ := info_parts i64Info
  rcases A with _ | a
  · obtain ⟨hl0, rfl⟩ := own_none h
    obtain rfl : l = [] := List.eq_nil_of_length_eq_zero hl0
    have hsl := fun (w : World) => Lib.run_eql_slice_nil (P := Tryz.prog) w 39 3 none 0 0 0 0 Tryz.underlying39
    go_enter Tryz.func49, Tryz.ntmps49
    go_wp2
    go_ret
    exact OwnOut.mk none 0 rfl (World.ownsRow_nil _ _ _ _) (Chg.refl _ _)
  · obtain ⟨g, rfl, hg⟩ := own_some h
    have hsl := fun (w : World) => Lib.run_eql_slice_nil (P := Tryz.prog) w 39 3 (some ⟨g, 0, none⟩) l.length c 0 0 Tryz.underlying39
    have H := Lib.hid h
    clear h
    go_enter Tryz.func49, Tryz.ntmps49
    go_wp2_with (at_builtin; (refine wpList_append_own _ rfl _ _ _ rfl w.heap.size 3 i0 _ 1 8 Tryz.underlying39 hi0 hz0 hz1 hz2 rfl (by omega) (.slice (some ⟨w.heap.size, 0, none⟩) 0 0) 0 [] rfl (World.ownsRow_lit w #[] 0 (Nat.le_refl _) (by simp [maxLen]) (by simp)) ⟨g, 0, none⟩ l.length c (nv l) rfl (by rw [nv_len]; omega) ((H.out.alloc _).cells (g := g) rfl) (nv_one l) (by simp only [maxLen]; omega) (by omega) (by simp) ?_); intro v1 w1 hown1 hgrow hnil; have HO := Lib.hid hown1; have HG := Lib.hid hgrow; clear hown1 hgrow hnil)
    go_ret
    obtain ⟨A', c', rfl, -⟩ := own_shape HO.out
    refine OwnOut.mk A' c' ?_ ?_ ?_
    · have := HO.out; simp
    · simpa using HO.out
    · exact ((Chg.refl NoF w).alloc _).grown HG.out (fun k hk hlt => by simp [Value.ownBlock] at hk; omega)

/-- A change begins. -/
def Gp.begun (X : Gp) : Gp := { X with op := some ⟨X.table, fun _ => false, [], fun _ => false⟩ }
theorem mB_none : mB (fun _ => false) = fun _ => none := by
  funext i
  simp [mB]
theorem cntN_no (n : Nat) : cntN (fun _ => false) n = 0 := cntN_false fun _ _ => rfl

section
variable {w w1 : World} {L : Nat → Nat} {p d b ca c M1 M2 : Nat} {X : Gp} {A : Option Addr} {vp vt vw : Value} {F : Nat → Prop}
theorem GIn.begin (h : GIn w L p X d b A ca vp vt none) (hF : ∀ j, F j ↔ L j ≠ 0) (hg : Grew w w1) (hb : Blk w1 c 80 #[vw, .map (some M1), .slice none 0 0, .map (some M2)])
    (hw : w1.ownsRow w.heap.size 3 1 vw X.table.length (nv X.table)) (h1 : IMap Tryz.prog 3 w1 M1 (fun _ => none) 0) (h2 : IMap Tryz.prog 3 w1 M2 (fun _ => none) 0)
    (hn : w.heap.size ≤ c ∧ w.heap.size ≤ M1 ∧ w.heap.size ≤ M2 ∧ c ≠ M1 ∧ c ≠ M2 ∧ M1 ≠ M2) (hv : ∀ j, vw.ownBlock = some j → j ≠ M1 ∧ j ≠ M2) :
    GTo w (w1.setCell ⟨p, 6, none⟩ (.pointer (some ⟨c, 0, none⟩))) p F X.begun := by
  obtain ⟨n1, n2, n3, n4, n5, n6⟩ := hn
  have hcv : ∀ j, vw.ownBlock = some j → j ≠ c := fun j hj e => own_blk_ne hw hb (by decide) (e ▸ hj)
  have hG := h.grew hg
  obtain ⟨L', hL'⟩ : ∃ L' : Nat → Nat, L' = fun j => if j = c then 6 else if j = M1 then 8 else if j = M2 then 10 else if vw.ownBlock = some j then 7 else L j := ⟨_, rfl⟩
  have hnew : ∀ j, j = c ∨ j = M1 ∨ j = M2 ∨ vw.ownBlock = some j → w.heap.size ≤ j ∧ j < w1.heap.size := by
    rintro j (rfl | rfl | rfl | e)
    · exact ⟨n1, hb.lt⟩
    · exact ⟨n2, h1.lt⟩
    · exact ⟨n3, h2.lt⟩
    · exact hw.lt j e
  have hold : ∀ j, j < w.heap.size → L' j = L j := fun j hj => by
    have hn : ¬ (j = c ∨ j = M1 ∨ j = M2 ∨ vw.ownBlock = some j) := fun e => by have := (hnew j e).1; omega
    simp only [not_or] at hn
    rw [hL']
    simp only [hn.1, hn.2.1, hn.2.2.1, hn.2.2.2, if_false]
  have hoz : ∀ j, ¬ (j = c ∨ j = M1 ∨ j = M2 ∨ vw.ownBlock = some j) → L' j = L j := fun j hn => by
    simp only [not_or] at hn
    rw [hL']
    simp only [hn.1, hn.2.1, hn.2.2.1, hn.2.2.2, if_false]
  have hge : ∀ j, w.heap.size ≤ j → L j = 0 := fun j hj => by
    by_cases e : L j = 0
    · exact e
    · have := h.lt j e; omega
  have l6 : L' c = 6 := by rw [hL']; simp
  have l8 : L' M1 = 8 := by rw [hL']; simp [Ne.symm n4]
  have l10 : L' M2 = 10 := by rw [hL']; simp [Ne.symm n5, Ne.symm n6]
  have l7 : ∀ j, vw.ownBlock = some j → L' j = 7 := fun j hj => by rw [hL']; simp [hcv j hj, (hv j hj).1, (hv j hj).2, hj]
  have hsame : ∀ j m, m < 6 → m ≠ 0 → (L' j = m ↔ L j = m) := fun j m hm h0 => by
    by_cases hj : j = c ∨ j = M1 ∨ j = M2 ∨ vw.ownBlock = some j
    · have e0 := hge j (hnew j hj).1
      rw [e0]
      refine ⟨fun e => ?_, fun e => absurd e.symm h0⟩
      rcases hj with rfl | rfl | rfl | hj
      · omega
      · omega
      · omega
      · have := l7 j hj; omega
    · rw [hoz j hj]
  have hp := h.lt p (by rw [h.lp]; omega)
  have hc1 : Chg (fun j => j = p) w1 (w1.setCell ⟨p, 6, none⟩ (.pointer (some ⟨c, 0, none⟩))) := (Chg.refl (fun j => j = p) _).setCell (p := ⟨p, 6, none⟩) (fun _ => rfl) _
  have hcL : Chg (fun j => L j = 1) w1 (w1.setCell ⟨p, 6, none⟩ (.pointer (some ⟨c, 0, none⟩))) := hc1.mono fun i _ e => e ▸ h.lp
  have hset : ∀ m, m < 6 → m ≠ 0 → (fun j => L' j = m) = (fun j => L j = m) := fun m h1 h2 => funext fun j => propext (hsame j m h1 h2)
  have htab := tab_chg hG.tab hcL (by rw [h.l0]; omega)
  have hGI : GIn (w1.setCell ⟨p, 6, none⟩ (.pointer (some ⟨c, 0, none⟩))) L' p X.begun d b A ca vp vt (some ⟨c, 0, none⟩) := by
    refine ⟨?_, (hsame p 1 (by omega) (by omega)).2 h.lp, ?_, hG.pol.chg hcL fun j hj e => by have := h.lo j hj; omega, fun j hj => (hsame j 3 (by omega) (by omega)).2 (h.lo j hj),
      own_lab hG.pgs h.lg hcL (by omega), fun j hj => (hsame j 4 (by omega) (by omega)).2 (h.lg j hj), own_lab hG.tbl h.lb hcL (by omega), fun j hj => (hsame j 5 (by omega) (by omega)).2 (h.lb j hj), ?_, fun j hj => ?_, ?_, htab⟩
    · have := hG.blk.put 6 (.pointer (some ⟨c, 0, none⟩))
      simpa [Gp.begun] using this
    · rw [hset 2 (by omega) (by omega)]
      exact hG.dsk.chg hcL fun j hj e => by omega
    · refine ⟨c, vw, M1, 0, .slice none 0 0, M2, 0, rfl, ⟨hb.chg hc1 (by omega), l6, own_chg (own_base hw (Nat.zero_le _)) hc1 fun g hg e => by have := (hw.lt g hg).1; omega, l7, by rw [mB_none]; exact h1.chg hc1 (by omega), l8,
        World.ownsRow_nil _ _ _ _, fun j hj => by simp [Value.ownBlock] at hj, by rw [mB_none]; exact h2.chg hc1 (by omega), l10, ⟨(cntN_no _).symm, fun j hj => by simp at hj⟩, ⟨(cntN_no _).symm, fun j hj => by simp at hj⟩⟩⟩
    · by_cases hn : j = c ∨ j = M1 ∨ j = M2 ∨ vw.ownBlock = some j
      · simpa using (hnew j hn).2
      · have := h.lt j (by rw [← hoz j hn]; exact hj)
        have := hg.size
        simp [World.setCell]
        omega
    · rw [hold 0 (tab_pos h.tab)]; exact h.l0
  refine ⟨fun j => L' j ≠ 0, hGI.gs, Grew.then hg (hc1.mono fun i _ e => (hF i).2 (by rw [e, h.lp]; omega)), fun j hj => ?_⟩
  by_cases e : j < w.heap.size
  · exact .inl ((hF j).2 (by rw [← hold j e]; exact hj))
  · exact .inr (by omega)
end

set_option maxRecDepth 100000 in
set_option maxHeartbeats 1600000 in
theorem gbegin_ok (p : Nat) (F : Nat → Prop) (X : Gp) (w : World) (h : GS w p F X) (hd : X.down = false) (hx : X.op = none) (hl : X.table.length ≤ 4096) :
    Calls Tryz.prog 20 #[.pointer (some ⟨p, 0, none⟩)] w fun e' w' => e' = .returned (.int .i64 0) ∧ GTo w w' p F X.begun := by
  obtain ⟨L, d, b, A, ca, vp, vt, vo, h, hF⟩ := h
  have ho := h.opn
  rw [hx] at ho
  obtain rfl : vo = none := ho
  obtain ⟨At, ct, rfl, -⟩ := own_shape h.tbl
  obtain ⟨c0, f0, s0⟩ := h.blk.facts
  rw [hd] at c0
  have hmm := @run_makeMap Tryz.prog
  have H := Lib.hid (And.intro h (And.intro hF (clone_ints X.table At ct w h.tbl (by omega))))
  have HB := Lib.hid h.blk
  clear h hF hx
  go_enter Tryz.func20, Tryz.ntmps20
  go_wp2_with (go_at_call 49; (refine H.out.2.2.mono ?_); rintro e w1 ⟨A1, c1, rfl, ho1, hg1⟩; obtain ⟨c9, f9, s9⟩ := ((((HB.out.grew hg1).alloc (.map #[] 0)).alloc (.map #[] 0)).alloc (.cells #[.slice A1 X.table.length c1, .map (some w1.heap.size), .slice none 0 0, .map (some (w1.heap.size + 1))] 80)).facts; have HC := Lib.hid (And.intro ho1 hg1); clear ho1 hg1 c0 f0 s0)
  go_ret
  refine ⟨rfl, ?_⟩
  have hg := Grew.trans HC.out.2 ((((Chg.refl NoF w1).alloc (.map #[] 0)).alloc (.map #[] 0)).alloc (.cells #[.slice A1 X.table.length c1, .map (some w1.heap.size), .slice none 0 0, .map (some (w1.heap.size + 1))] 80))
  have hsz := HC.out.2.size
  refine H.out.1.begin H.out.2.1 hg (c := w1.heap.size + 1 + 1) (M1 := w1.heap.size) (M2 := w1.heap.size + 1) (vw := .slice A1 X.table.length c1) ?_ ?_ ?_ ?_ (by omega) ?_
  · have := Blk.new ((w1.alloc (.map #[] 0)).alloc (.map #[] 0)) 80 #[.slice A1 X.table.length c1, .map (some w1.heap.size), .slice none 0 0, .map (some (w1.heap.size + 1))]
    simpa using this
  · exact own_grew HC.out.1 ((((Chg.refl NoF w1).alloc (.map #[] 0)).alloc (.map #[] 0)).alloc _)
  · exact (IMap.made Tryz.prog 3 w1).grew (((Chg.refl NoF _).alloc (.map #[] 0)).alloc _)
  · have := (IMap.made Tryz.prog 3 (w1.alloc (.map #[] 0))).grew ((Chg.refl NoF _).alloc (.cells #[.slice A1 X.table.length c1, .map (some w1.heap.size), .slice none 0 0, .map (some (w1.heap.size + 1))] 80))
    simpa using this
  · intro j hj
    have := (HC.out.1.lt j hj).2
    omega

end Go.Proofs.YtjkkoogfaibhiaaGreatDoor

/- The roots: Right. -/
namespace Go.Proofs.YtjkkoogfaibhiaaGreatDoor
open Go.RowKit

/-- Int numbers as values. -/
def iv (l : List Int) : List Value := l.map (.int .i64)
theorem iv_len (l : List Int) : (iv l).length = l.length := by simp [iv]
theorem iv_one (l : List Int) : ∀ u ∈ iv l, u.oneCell' = true := by
  intro u hu
  obtain ⟨x, -, rfl⟩ := List.mem_map.1 hu
  rfl
theorem nv_iv (l : List Nat) : nv l = iv (l.map fun n : Nat => (n : Int)) := by simp [nv, iv, Function.comp_def]
/-- A sector's number. -/
def goodN (n : Int) : Prop := 0 ≤ n ∧ n < 4096
instance (n : Int) : Decidable (goodN n) := inferInstanceAs (Decidable (_ ∧ _))

theorem wrong_no (n : Int) (w : World) (h : goodN n) : Calls Tryz.prog 140 #[.int .i64 n] w fun e w' => e = .returned (.bool false) ∧ w = w' := by
  have a1 : decide (n < 0) = false := decide_eq_false (by have := h.1; omega)
  have a2 : decide (4096 ≤ n) = false := decide_eq_false (by have := h.2; omega)
  clear h
  go_enter Tryz.func140, Tryz.ntmps140
  go_wp2
  go_ret
  exact ⟨rfl, rfl⟩
theorem wrong_yes (n : Int) (w : World) (h : ¬ goodN n) : Calls Tryz.prog 140 #[.int .i64 n] w fun e w' => e = .returned (.bool true) ∧ w = w' := by
  by_cases h0 : n < 0
  · have a1 : decide (n < 0) = true := decide_eq_true h0
    clear h h0
    go_enter Tryz.func140, Tryz.ntmps140
    go_wp2
    go_ret
    exact ⟨rfl, rfl⟩
  · have a1 : decide (n < 0) = false := decide_eq_false h0
    have a2 : decide (4096 ≤ n) = true := decide_eq_true (by
      rcases Int.lt_or_le n 4096 with h4 | h4
      · exact absurd ⟨by omega, h4⟩ h
      · exact h4)
    clear h h0
    go_enter Tryz.func140, Tryz.ntmps140
    go_wp2
    go_ret
    exact ⟨rfl, rfl⟩

set_option maxHeartbeats 800000 in
theorem index_none (l : List Int) (A : Option Addr) (c : Nat) (w : World) (hs : Sl w 1 A l.length (iv l)) (hl : l.length ≤ 1000000) (h : ∀ x ∈ l, goodN x) :
    Calls Tryz.prog 159 #[.slice A l.length c, .func (.func 140) #[] #[]] w fun e w' => e = .returned (.int .i64 (-1)) ∧ w = w' := by
  have H := Lib.hid (And.intro hs h)
  clear hs h
  go_enter Tryz.func159, Tryz.ntmps159
  go_wp2
  go_loop [5, 8] (fun x i => ∃ k : Nat, k ≤ l.length ∧ i = .int .i64 k) (fun _ i => l.length - (intOf i).toNat)
  case atStart => exact ⟨0, Nat.zero_le _, rfl⟩
  case round =>
    obtain ⟨k, hk, rfl⟩ := hrel
    by_cases hlt : k < l.length
    · obtain ⟨n, hnk⟩ : ∃ n, l[k]? = some n := ⟨_, List.getElem?_eq_getElem hlt⟩
      have hg := H.out.2 n (List.mem_of_getElem? hnk)
      obtain ⟨b, off, rfl, hblt, hx⟩ := H.out.1.2 (by omega)
      have hc := hx k (.int .i64 n) (by simp [iv, hnk])
      clear hx hnk
      go_wp2_with (go_at_call 140; refine (wrong_no n _ hg).mono ?_; rintro e w1 ⟨rfl, rfl⟩)
      exact ⟨⟨k + 1, by omega, by simp⟩, by simp [intOf]; omega⟩
    · obtain rfl : k = l.length := by omega
      go_wp2
      go_ret
      exact ⟨rfl, rfl⟩

set_option maxHeartbeats 800000 in
theorem index_some (l : List Int) (j : Nat) (A : Option Addr) (c : Nat) (w : World) (hs : Sl w 1 A l.length (iv l)) (hl : l.length ≤ 1000000) (hj : j < l.length) (h : ∀ k x, l[k]? = some x → (k < j → goodN x) ∧ (k = j → ¬ goodN x)) :
    Calls Tryz.prog 159 #[.slice A l.length c, .func (.func 140) #[] #[]] w fun e w' => e = .returned (.int .i64 j) ∧ w = w' := by
  have H := Lib.hid (And.intro hs h)
  clear hs h
  go_enter Tryz.func159, Tryz.ntmps159
  go_wp2
  go_loop [5, 8] (fun x i => ∃ k : Nat, k ≤ j ∧ i = .int .i64 k) (fun _ i => l.length - (intOf i).toNat)
  case atStart => exact ⟨0, Nat.zero_le _, rfl⟩
  case round =>
    obtain ⟨k, hk, rfl⟩ := hrel
    have hlt : k < l.length := by omega
    obtain ⟨n, hnk⟩ : ∃ n, l[k]? = some n := ⟨_, List.getElem?_eq_getElem hlt⟩
    have hg := H.out.2 k n hnk
    obtain ⟨b, off, rfl, hblt, hx⟩ := H.out.1.2 (by omega)
    have hc := hx k (.int .i64 n) (by simp [iv, hnk])
    have HG := Lib.hid hg
    clear hx hnk hg
    by_cases hkj : k < j
    · go_wp2_with (go_at_call 140; refine (wrong_no n _ (HG.out.1 hkj)).mono ?_; rintro e w1 ⟨rfl, rfl⟩)
      exact ⟨⟨k + 1, by omega, by simp⟩, by simp [intOf]; omega⟩
    · obtain rfl : k = j := by omega
      go_wp2_with (go_at_call 140; refine (wrong_yes n _ (HG.out.2 rfl)).mono ?_; rintro e w1 ⟨rfl, rfl⟩)
      go_ret
      exact ⟨rfl, rfl⟩

theorem contains_any (l : List Int) (A : Option Addr) (c : Nat) (w : World) (hs : Sl w 1 A l.length (iv l)) (hl : l.length ≤ 1000000) :
    Calls Tryz.prog 141 #[.slice A l.length c, .func (.func 140) #[] #[]] w fun e w' => e = .returned (.bool (decide (¬ ∀ x ∈ l, goodN x))) ∧ w = w' := by
  by_cases h : ∀ x ∈ l, goodN x
  · have hd : decide (¬ ∀ x ∈ l, goodN x) = false := decide_eq_false (by simpa using h)
    rw [hd]
    have H := Lib.hid h
    clear h hd
    go_enter Tryz.func141, Tryz.ntmps141
    go_wp2_with (go_at_call 159; refine (index_none l A c _ hs hl H.out).mono ?_; rintro e w1 ⟨rfl, rfl⟩)
    go_ret
    exact ⟨rfl, rfl⟩
  · have hd : decide (¬ ∀ x ∈ l, goodN x) = true := decide_eq_true h
    rw [hd]
    obtain ⟨j, hj, hp⟩ : ∃ j, j < l.length ∧ ∀ k x, l[k]? = some x → (k < j → goodN x) ∧ (k = j → ¬ goodN x) := by
      clear hs hl hd
      induction l with
      | nil => exact absurd (fun x hx => by simp at hx) h
      | cons y l ih =>
        by_cases hy : goodN y
        · obtain ⟨j, hj, hp⟩ := ih (fun hl => h fun x hx => by
            rcases List.mem_cons.1 hx with rfl | hx
            · exact hy
            · exact hl x hx)
          refine ⟨j + 1, by simp; omega, fun k x hk => ?_⟩
          cases k with
          | zero => simp at hk; subst hk; exact ⟨fun _ => hy, fun e => by omega⟩
          | succ k =>
            have := hp k x (by simpa using hk)
            exact ⟨fun h => this.1 (by omega), fun h => this.2 (by omega)⟩
        · refine ⟨0, by simp, fun k x hk => ⟨fun h => by omega, fun e => ?_⟩⟩
          subst e; simp at hk; subst hk; exact hy
    have H := Lib.hid hp
    clear h hd hp
    go_enter Tryz.func141, Tryz.ntmps141
    go_wp2_with (go_at_call 159; refine (index_some l j A c _ hs hl hj H.out).mono ?_; rintro e w1 ⟨rfl, rfl⟩)
    go_ret
    exact ⟨rfl, rfl⟩

/-- Is a root right? -/
def rightB (ep : Int) (l : List Int) : Bool := decide (1 ≤ ep) && decide (ep ≤ 1099511627776) && decide (l.length ≤ 64) && decide (∀ x ∈ l, goodN x)

set_option maxHeartbeats 1600000 in
theorem right_any (ep : Int) (l : List Int) (A : Option Addr) (c : Nat) (w : World) (hs : Sl w 1 A l.length (iv l)) (hl : l.length ≤ 1000000) :
    Calls Tryz.prog 109 #[.agg #[.int .i64 ep, .slice A l.length c]] w fun e w' => e = .returned (.bool (rightB ep l)) ∧ Grew w w' := by
  have hc := fun w h => contains_any l A c w h hl
  obtain ⟨q, hq⟩ : ∃ q, decide (¬ ∀ x ∈ l, goodN x) = q := ⟨_, rfl⟩
  have hr : rightB ep l = (decide (1 ≤ ep) && decide (ep ≤ 1099511627776) && decide (l.length ≤ 64) && !q) := by rw [← hq, decide_not, Bool.not_not]; rfl
  rw [hr]
  rw [hq] at hc
  have H := Lib.hid (And.intro hs hc)
  clear hs hc hr hq
  by_cases h1 : 1 ≤ ep
  · have a1 : decide (1 ≤ ep) = true := decide_eq_true h1
    by_cases h2 : ep ≤ 1099511627776
    · have a2 : decide (ep ≤ 1099511627776) = true := decide_eq_true h2
      by_cases h3 : l.length ≤ 64
      · have a3 : decide (l.length ≤ 64) = true := decide_eq_true h3
        have a4 : decide ((l.length : Int) ≤ 64) = true := decide_eq_true (by omega)
        clear h1 h2 h3
        cases q
        all_goals
          go_enter Tryz.func109, Tryz.ntmps109
          go_wp2_with (go_at_call 141; refine (H.out.2 _ (H.out.1.grew ((Chg.refl _ _).alloc _))).mono ?_; rintro e w1 ⟨rfl, rfl⟩)
          go_ret
          exact ⟨by simp [a1, a2, a3], (Chg.refl _ _).alloc _⟩
      · have a3 : decide (l.length ≤ 64) = false := decide_eq_false h3
        have a4 : decide ((l.length : Int) ≤ 64) = false := decide_eq_false (by omega)
        clear h1 h2 h3
        go_enter Tryz.func109, Tryz.ntmps109
        go_wp2
        go_ret
        exact ⟨by simp [a1, a2, a3], (Chg.refl _ _).alloc _⟩
    · have a2 : decide (ep ≤ 1099511627776) = false := decide_eq_false h2
      clear h1 h2
      go_enter Tryz.func109, Tryz.ntmps109
      go_wp2
      go_ret
      exact ⟨by simp [a1, a2], (Chg.refl _ _).alloc _⟩
  · have a1 : decide (1 ≤ ep) = false := decide_eq_false h1
    clear h1
    go_enter Tryz.func109, Tryz.ntmps109
    go_wp2
    go_ret
    exact ⟨by simp [a1], (Chg.refl _ _).alloc _⟩

end Go.Proofs.YtjkkoogfaibhiaaGreatDoor

/- The roots: Bytes. -/
namespace Go.Proofs.YtjkkoogfaibhiaaGreatDoor
open Go.RowKit

/-- A root's body. -/
def bodyL (ep : Nat) (l : List Nat) : List Int := grp (2 * ep) ++ grp (2 * l.length) ++ grps l
def tail8 (ep : Nat) : List Int := [((ep / 72057594037927936 % 256 : Nat) : Int), ((ep / 281474976710656 % 256 : Nat) : Int), ((ep / 1099511627776 % 256 : Nat) : Int), ((ep / 4294967296 % 256 : Nat) : Int), ((ep / 16777216 % 256 : Nat) : Int), ((ep / 65536 % 256 : Nat) : Int), ((ep / 256 % 256 : Nat) : Int), ((ep % 256 : Nat) : Int)]
/-- A root's bytes. -/
def rootL (ep : Nat) (l : List Nat) (sz : Nat) : List Int := sealL (bodyL ep l) (sz - 12) ++ tail8 ep
theorem bodyL_byte (ep : Nat) (l : List Nat) : ∀ x ∈ bodyL ep l, 0 ≤ x ∧ x ≤ 255 := by
  intro x hx
  simp only [bodyL, grps, List.mem_append, List.mem_flatMap] at hx
  rcases hx with (hx | hx) | ⟨n, -, hx⟩
  · exact grp_byte _ _ (Nat.le_refl _) x hx
  · exact grp_byte _ _ (Nat.le_refl _) x hx
  · exact grp_byte _ _ (Nat.le_refl _) x hx
theorem goods {l : List Nat} (h : ∀ n ∈ l, n < 4096) : ∀ x ∈ l.map (fun n : Nat => (n : Int)), goodN x := by
  intro x hx
  obtain ⟨n, hn, rfl⟩ := List.mem_map.1 hx
  exact ⟨by omega, by have := h n hn; omega⟩
theorem bodyL_len {ep : Nat} {l : List Nat} (h1 : ep ≤ 1099511627776) (hl : l.length ≤ 64) (h : ∀ n ∈ l, n < 4096) : (bodyL ep l).length ≤ 660 ∧ 0 < (bodyL ep l).length := by
  have a := grp_len 10 (2 * ep) (by omega) (by omega)
  have b := grp_len 10 (2 * l.length) (by omega) (by omega)
  have c := grps_len l (fun n hn => by have := h n hn; omega)
  have d : 0 < (grp (2 * ep)).length := by
    by_cases h : 2 * ep < 128
    · rw [grp_small h]; simp
    · rw [grp_more (by omega)]; simp
  simp only [bodyL, List.length_append]
  omega

/-- A root's bytes, on the way. -/
structure TailJ (w wr : World) (b0 : Nat) (bx : Array Value) (S : List Int) (ep k n c : Nat) (A : Option Addr) : Prop where
  own : wr.ownsRow w.heap.size 5 1 (.slice A (n + k) c) (n + k) (bv S ++ bv ((tail8 ep).take k))
  blk : Blk wr b0 89 bx
  grew : Grew w wr
theorem TailJ.more {w wr w1 : World} {b0 : Nat} {bx : Array Value} {S : List Int} {ep k n c : Nat} {A A1 : Option Addr} {c1 : Nat} (h : TailJ w wr b0 bx S ep k n c A) {e : Int} (he : bv ((tail8 ep).take k) ++ [.int .u8 e] = bv ((tail8 ep).take (k + 1)))
    (ho : w1.ownsRow w.heap.size 5 1 (.slice A1 (n + k + 1) c1) (n + k + 1) (bv S ++ bv ((tail8 ep).take k) ++ [.int .u8 e])) (ha : Ap wr w1 (.slice A (n + k) c) (.slice A1 (n + k + 1) c1)) : TailJ w w1 b0 bx S ep (k + 1) n c1 A1 :=
  ⟨by rw [List.append_assoc, he] at ho; exact ho, h.blk.chg ha.chg fun e => own_blk_ne h.own h.blk (by decide) e, ha.grow h.grew fun j hj => (h.own.lt j hj).1⟩

set_option maxRecDepth 100000 in
set_option maxHeartbeats 3200000 in
theorem rbytes_ok (ep : Nat) (l : List Nat) (sz : Nat) (A : Option Addr) (c : Nat) (w : World) (hs : Sl w 1 A l.length (nv l)) (h1 : 1 ≤ ep) (h2 : ep ≤ 1099511627776) (hl : l.length ≤ 64) (hg : ∀ n ∈ l, n < 4096) (hsz : sz ≤ 4096) (hfit : (bodyL ep l).length + 14 ≤ sz) :
    Calls Tryz.prog 82 #[.agg #[.int .i64 ep, .slice A l.length c], .int .i64 sz] w fun e w' => OwnOut w w' 5 1 sz (bv (rootL ep l sz)) (fun A c => .tuple #[.slice A sz c, .int .i64 0]) e := by
  have hr := right_any ep (l.map fun n : Nat => (n : Int)) A c
  rw [List.length_map, ← nv_iv] at hr
  have hrt : rightB ep (l.map fun n : Nat => (n : Int)) = true := by
    unfold rightB
    rw [decide_eq_true (show (1 : Int) ≤ (ep : Int) from by omega), decide_eq_true (show (ep : Int) ≤ 1099511627776 from by omega), decide_eq_true (show (l.map fun n : Nat => (n : Int)).length ≤ 64 from by simpa using hl), decide_eq_true (goods hg)]
    rfl
  rw [hrt] at hr
  have hbl := bodyL_len h2 hl hg
  have hft := fit_ok (bodyL ep l) (sz - 12)
  rw [show sz - 12 + 4 = sz - 8 from by omega] at hft
  have hsl := sealL_len (b := bodyL ep l) (m := sz - 12) (by omega)
  rw [show sz - 12 + 4 = sz - 8 from by omega] at hsl
  have H := Lib.hid (And.intro hs (And.intro hr (And.intro hft (And.intro hg hsl))))
  have hsub : (sz : Int) - 8 = ((sz - 8 : Nat) : Int) := by omega
  obtain ⟨w0, rfl⟩ : ∃ w0 : World, w0 = w := ⟨_, rfl⟩
  obtain ⟨sz8, hsz8⟩ : ∃ s, sz - 8 = s := ⟨_, rfl⟩
  rw [hsz8] at hsub H
  have HWR := Lib.hid (show IntKind.i64.wrap ((if (sz : Int) < 8 then 8 else (sz : Int)) - 8) = (sz8 : Int) from by rw [if_neg (by omega), hsub]; exact wrap_nat (by omega))
  clear hsub
  have HZ := Lib.hid hsz8
  clear hs hr hrt hft hsl hg hsz8
  go_enter Tryz.func82, Tryz.ntmps82
  go_wp2_with (go_at_call 109; (refine (H.out.2.1 _ (H.out.1.grew ((Chg.refl _ _).alloc _)) (by omega)).mono ?_); rintro e w1 ⟨rfl, hg1⟩; have HG1 := Lib.hid hg1; clear hg1)
  obtain ⟨b0, hb0⟩ : ∃ b, w0.heap.size = b := ⟨_, rfl⟩
  have HB := Lib.hid (show Blk w1 b0 89 #[.int .i64 ep, .slice A l.length c] from hb0 ▸ (Blk.new w0 89 #[.int .i64 ep, .slice A l.length c]).grew HG1.out)
  have HG0 := Lib.hid (Grew.trans ((Chg.refl NoF w0).alloc _) HG1.out)
  obtain ⟨W2, hW2⟩ : ∃ W2, w1.alloc (.cells #[.slice none 0 0] 146) = W2 := ⟨_, rfl⟩
  have HO2 := Lib.hid (show OutIs w1 W2 w1.heap.size [] from hW2 ▸ OutIs.made w1 w1 (Chg.refl _ _))
  have HG2 := Lib.hid (show Grew w1 W2 from hW2 ▸ (Chg.refl _ _).alloc _)
  obtain ⟨o, ho⟩ : ∃ o, w1.heap.size = o := ⟨_, rfl⟩
  rw [ho] at HO2 ⊢
  rw [hb0, hW2]
  have hS : W2.drew.cell? ⟨b0, 0, none⟩ = some (.int .i64 ep) ∧ W2.drew.cell? ⟨b0, 1, none⟩ = some (.slice A l.length c) := ⟨(HB.out.grew HG2.out).cell 0, (HB.out.grew HG2.out).cell 1⟩
  have Hb0 := Lib.hid hb0
  clear hW2 ho HG1 hb0
  refine wp_region_held_drew (S := fun w' => w'.cell? ⟨b0, 0, none⟩ = some (.int .i64 ep) ∧ w'.cell? ⟨b0, 1, none⟩ = some (.slice A l.length c)) (by kernel_rfl) hS (fun hHeld => ?_)
  have hb2 := (HB.out.grew HG2.out).lt
  have keep : ∀ w', Grew w1 w' → w'.cell? ⟨b0, 0, none⟩ = some (.int .i64 ep) ∧ w'.cell? ⟨b0, 1, none⟩ = some (.slice A l.length c) := fun w' hg => ⟨(HB.out.grew hg).cell 0, (HB.out.grew hg).cell 1⟩
  have KP := Lib.hid keep
  clear keep hS
  refine wpAnyH_take (i := 0) (v := ?_) rfl (by kernel_rfl) (by kernel_rfl) (by kernel_rfl) (fun _ _ _ h => h) (Or.inl ⟨by rfl, ?_⟩) hHeld ?_
  rotate_left
  · (intro w hSw; (try dsimp only at hSw); go_simp) <;> with_reducible rfl
  (try simp only [Act.put, List.setIfInBounds_toArray, List.set_cons_zero, List.set_cons_succ, List.getElem_toArray, List.getElem_cons_zero, List.getElem_cons_succ])
  refine wpAnyH_take (i := 1) (v := ?_) rfl (by kernel_rfl) (by kernel_rfl) (by kernel_rfl) (fun _ _ _ h => h) (Or.inl ⟨by rfl, ?_⟩) hHeld ?_
  rotate_left
  · (intro w hSw; (try dsimp only at hSw); go_simp) <;> with_reducible rfl
  (try simp only [Act.put, List.setIfInBounds_toArray, List.set_cons_zero, List.set_cons_succ, List.getElem_toArray, List.getElem_cons_zero, List.getElem_cons_succ])
  refine wpAnyH_take (i := 3) (v := ?_) rfl (by kernel_rfl) (by kernel_rfl) (by kernel_rfl) (fun _ _ _ h => h) (Or.inl ⟨by rfl, ?_⟩) hHeld ?_
  rotate_left
  · (intro w hSw; (try dsimp only at hSw); go_simp) <;> with_reducible rfl
  (try simp only [Act.put, List.setIfInBounds_toArray, List.set_cons_zero, List.set_cons_succ, List.getElem_toArray, List.getElem_cons_zero, List.getElem_cons_succ])
  refine wpAnyH_take (i := 4) (v := ?_) rfl (by kernel_rfl) (by kernel_rfl) (by kernel_rfl) (fun _ _ _ h => h) (Or.inl ⟨by rfl, ?_⟩) hHeld ?_
  rotate_left
  · (intro w hSw; (try dsimp only at hSw); go_simp) <;> with_reducible rfl
  (try simp only [Act.put, List.setIfInBounds_toArray, List.set_cons_zero, List.set_cons_succ, List.getElem_toArray, List.getElem_cons_zero, List.getElem_cons_succ])
  refine wpAnyH_take (i := 7) (v := ?_) rfl (by kernel_rfl) (by kernel_rfl) (by kernel_rfl) (fun _ _ _ h => h) (Or.inl ⟨by rfl, ?_⟩) hHeld ?_
  rotate_left
  · (intro w hSw; (try dsimp only at hSw); go_simp) <;> with_reducible rfl
  (try simp only [Act.put, List.setIfInBounds_toArray, List.set_cons_zero, List.set_cons_succ, List.getElem_toArray, List.getElem_cons_zero, List.getElem_cons_succ])
  refine wpAnyH_take (i := 8) (v := ?_) rfl (by kernel_rfl) (by kernel_rfl) (by kernel_rfl) (fun _ _ _ h => h) (Or.inl ⟨by rfl, ?_⟩) hHeld ?_
  rotate_left
  · (intro w hSw; (try dsimp only at hSw); go_simp) <;> with_reducible rfl
  (try simp only [Act.put, List.setIfInBounds_toArray, List.set_cons_zero, List.set_cons_succ, List.getElem_toArray, List.getElem_cons_zero, List.getElem_cons_succ])
  refine wpAnyH_take (i := 9) (v := ?_) rfl (by kernel_rfl) (by kernel_rfl) (by kernel_rfl) (fun _ _ _ h => h) (Or.inl ⟨by rfl, ?_⟩) hHeld ?_
  rotate_left
  · (intro w hSw; (try dsimp only at hSw); go_simp) <;> with_reducible rfl
  (try simp only [Act.put, List.setIfInBounds_toArray, List.set_cons_zero, List.set_cons_succ, List.getElem_toArray, List.getElem_cons_zero, List.getElem_cons_succ])
  refine wpAnyH_ready (rs := [2]) (by kernel_rfl) (by simp) ?_
  refine AllReadyH.cons rfl (fun K hK => ?_) AllReadyH.nil
  go_simp
  refine (oint_any w1 o [] ep _ (HO2.out.on ((Chg.refl _ _).drew)) (by simp) (by omega)).mono ?_
  rintro e w3 ⟨rfl, ho3⟩
  have HO3 := Lib.hid ho3
  have hHeld3 := KP.out w3 ho3.grew
  clear ho3
  refine hK.out _ _ hHeld3 (fun _ => ?_)
  clear hK K
  (try simp only [Act.put, List.setIfInBounds_toArray, List.set_cons_zero, List.set_cons_succ, List.getElem_toArray, List.getElem_cons_zero, List.getElem_cons_succ])
  refine wpAnyH_ready (rs := [5]) (by kernel_rfl) (by simp) ?_
  refine AllReadyH.cons rfl (fun K hK => ?_) AllReadyH.nil
  go_simp
  refine (oints_any w1 o ([] ++ grp (2 * ep)) l A c _ HO3.out (H.out.1.grew HG0.out) (by have := grp_len 10 (2 * ep) (by omega) (by omega); simp; omega) (by omega) (fun n hn => by have := H.out.2.2.2.1 n hn; omega)).mono ?_
  rintro e w4 ⟨rfl, ho4⟩
  have HO4 := Lib.hid (show OutIs w1 w4 o (bodyL ep l) from by simpa [bodyL] using ho4)
  have hHeld4 := KP.out w4 ho4.grew
  clear ho4
  refine hK.out _ _ hHeld4 (fun _ => ?_)
  clear hK K
  (try simp only [Act.put, List.setIfInBounds_toArray, List.set_cons_zero, List.set_cons_succ, List.getElem_toArray, List.getElem_cons_zero, List.getElem_cons_succ])
  refine wpAnyH_ready (rs := [6]) (by kernel_rfl) (by simp) ?_
  refine AllReadyH.cons rfl (fun K hK => ?_) AllReadyH.nil
  go_simp
  refine (oall_any w1 o (bodyL ep l) _ HO4.out hbl.2 (by omega)).mono ?_
  rintro e w5 ⟨A5, c5, rfl, ho5, hg5⟩
  have HO5 := Lib.hid (And.intro ho5 (Grew.trans HO4.out.grew hg5))
  have hHeld5 := KP.out w5 HO5.out.2
  clear ho5 hg5
  refine hK.out _ _ hHeld5 (fun _ => ?_)
  clear hK K
  (try simp only [Act.put, List.setIfInBounds_toArray, List.set_cons_zero, List.set_cons_succ, List.getElem_toArray, List.getElem_cons_zero, List.getElem_cons_succ])
  refine wpAnyH_ready (rs := [10]) (by kernel_rfl) (by simp) ?_
  refine AllReadyH.cons rfl (fun K hK => ?_) AllReadyH.nil
  go_simp
  rw [HWR.out]
  ((with_reducible refine (H.out.2.2.1 A5 c5 _ (by have := HZ.out; omega) (by have := HZ.out; omega) (Sl.of_own (own_base HO5.out.1 (Nat.zero_le _))) (bodyL_byte ep l)).mono ?_))
  rintro e w6 ⟨A6, c6, rfl, ho6, hg6⟩
  have HO6 := Lib.hid (And.intro ho6 (Grew.trans HO5.out.2 hg6))
  have hHeld6 := KP.out w6 HO6.out.2
  clear ho6 hg6
  refine hK.out _ _ hHeld6 (fun _ => ?_)
  clear hK K
  (try simp only [Act.put, List.setIfInBounds_toArray, List.set_cons_zero, List.set_cons_succ, List.getElem_toArray, List.getElem_cons_zero, List.getElem_cons_succ])
  refine wpAnyH_take (i := 11) (v := ?_) rfl (by kernel_rfl) (by kernel_rfl) (by kernel_rfl) (fun _ _ _ h => h) (Or.inl ⟨by rfl, ?_⟩) hHeld6 ?_
  rotate_left
  · (intro w hSw; (try dsimp only at hSw); go_simp) <;> with_reducible rfl
  (try simp only [Act.put, List.setIfInBounds_toArray, List.set_cons_zero, List.set_cons_succ, List.getElem_toArray, List.getElem_cons_zero, List.getElem_cons_succ])
  refine wpAnyH_take (i := 12) (v := ?_) rfl (by kernel_rfl) (by kernel_rfl) (by kernel_rfl) (fun _ _ _ h => h) (Or.inl ⟨by rfl, ?_⟩) hHeld6 ?_
  rotate_left
  · (intro w hSw; (try dsimp only at hSw); go_simp) <;> with_reducible rfl
  (try simp only [Act.put, List.setIfInBounds_toArray, List.set_cons_zero, List.set_cons_succ, List.getElem_toArray, List.getElem_cons_zero, List.getElem_cons_succ])
  refine wpAnyH_take (i := 13) (v := ?_) rfl (by kernel_rfl) (by kernel_rfl) (by kernel_rfl) (fun _ _ _ h => h) (Or.inl ⟨by rfl, ?_⟩) hHeld6 ?_
  rotate_left
  · (intro w hSw; (try dsimp only at hSw); go_simp) <;> with_reducible rfl
  (try simp only [Act.put, List.setIfInBounds_toArray, List.set_cons_zero, List.set_cons_succ, List.getElem_toArray, List.getElem_cons_zero, List.getElem_cons_succ])
  refine wpAnyH_take (i := 14) (v := ?_) rfl (by kernel_rfl) (by kernel_rfl) (by kernel_rfl) (fun _ _ _ h => h) (Or.inl ⟨by rfl, ?_⟩) hHeld6 ?_
  rotate_left
  · (intro w hSw; (try dsimp only at hSw); go_simp) <;> with_reducible rfl
  (try simp only [Act.put, List.setIfInBounds_toArray, List.set_cons_zero, List.set_cons_succ, List.getElem_toArray, List.getElem_cons_zero, List.getElem_cons_succ])
  refine wpAnyH_ready (rs := [15]) (by kernel_rfl) (by simp) ?_
  refine AllReadyH.cons rfl (fun K hK => ?_) AllReadyH.nil
  go_simp
  refine hK.out _ _ hHeld6 (fun _ => ?_)
  clear hK K
  (try simp only [Act.put, List.setIfInBounds_toArray, List.set_cons_zero, List.set_cons_succ, List.getElem_toArray, List.getElem_cons_zero, List.getElem_cons_succ])
  refine wpAnyH_done (by kernel_rfl) ?_ _
  have hb6 : w0.heap.size ≤ w5.heap.size := Nat.le_trans HG0.out.size HO5.out.2.size
  have HJ := Lib.hid (show TailJ w0 w6 b0 #[.int .i64 ep, .slice A l.length c] (sealL (bodyL ep l) (sz - 12)) ep 0 sz8 c6 A6 from ⟨by have := own_base HO6.out.1 hb6; simpa [bv] using this, HB.out.grew HO6.out.2, Grew.trans HG0.out HO6.out.2⟩)
  obtain ⟨S, hS⟩ : ∃ S, sealL (bodyL ep l) (sz - 12) = S := ⟨_, rfl⟩
  rw [hS] at HJ
  have HS := Lib.hid hS
  have hz8 : sz8 ≤ 4096 := by have := HZ.out; omega
  clear hS hHeld hHeld3 hHeld4 hHeld5 hHeld6 hb2 hb6 HO6 HO5 HO4 HO3 HO2 HG2
  go_wp2
  go_loopw [7, 9, 29] (fun v x i wr => ∃ (k c' : Nat) (A' : Option Addr), k ≤ 8 ∧ i = .int .i64 k ∧ v = .slice A' (sz8 + k) c' ∧ TailJ w0 wr b0 #[.int .i64 ep, .slice A l.length c] S ep k sz8 c' A') (fun _ _ i _ => 8 - (intOf i).toNat)
  case atStart => exact ⟨0, c6, A6, by omega, rfl, rfl, HJ.out⟩
  case round =>
    obtain ⟨k, c', A', hk, rfl, rfl, hj⟩ := hrel
    obtain ⟨x0, f0, s0⟩ := hj.blk.facts
    have x00 := x0 0
    simp only [List.getElem?_toArray, List.getElem?_cons_zero] at x00
    have HR := Lib.hid hj
    have hbs : w0.heap.size ≤ wr.heap.size := hj.grew.size
    clear hj x0 f0
    have hk' : k = 0 ∨ k = 1 ∨ k = 2 ∨ k = 3 ∨ k = 4 ∨ k = 5 ∨ k = 6 ∨ k = 7 ∨ k = 8 := by omega
    rcases hk' with rfl | rfl | rfl | rfl | rfl | rfl | rfl | rfl | rfl
    case inr.inr.inr.inr.inr.inr.inr.inr =>
      go_wp2
      go_ret2
      have h1 := HR.out.own
      rw [show (tail8 ep).take 8 = tail8 ep from rfl, ← HS.out] at h1
      have e : sz8 + 8 = sz := by have := HZ.out; omega
      rw [e] at h1 ⊢
      exact OwnOut.mk A' c' rfl (by simpa [rootL, bv] using h1) HR.out.grew
    all_goals
      go_wp2_with (at_builtin; (refine app_byte rfl (.tmp 32) (.tmp 40) rfl w0.heap.size _ _ _ rfl HR.out.own _ rfl (by omega) hbs ?_); intro v1 w1 h1 h2; have HA := Lib.hid (And.intro h1 h2); clear h1 h2)
      obtain ⟨A1, c1, rfl, -⟩ := own_shape HA.out.1
      go_wp2
      refine ⟨⟨_, c1, A1, ?_, rfl, rfl, HR.out.more ?_ HA.out.1 HA.out.2⟩, ?_⟩
      · first | omega | decide
      · simp [tail8, bv] <;> omega
      · simp [intOf]

end Go.Proofs.YtjkkoogfaibhiaaGreatDoor

/- The roots: Bytes that do not fit; Fits. -/
namespace Go.Proofs.YtjkkoogfaibhiaaGreatDoor
open Go.RowKit

set_option maxRecDepth 100000 in
set_option maxHeartbeats 3200000 in
theorem rbytes_many (ep : Nat) (l : List Nat) (sz : Nat) (A : Option Addr) (c : Nat) (w : World) (hs : Sl w 1 A l.length (nv l)) (h1 : 1 ≤ ep) (h2 : ep ≤ 1099511627776) (hl : l.length ≤ 64) (hg : ∀ n ∈ l, n < 4096) (hsz : sz ≤ 4096) (hlo : 8 ≤ sz) (hfit : sz < (bodyL ep l).length + 14) :
    Calls Tryz.prog 82 #[.agg #[.int .i64 ep, .slice A l.length c], .int .i64 sz] w fun e w' => e = .returned (.tuple #[.slice none 0 0, .int .i64 12]) ∧ Grew w w' := by
  have hr := right_any ep (l.map fun n : Nat => (n : Int)) A c
  rw [List.length_map, ← nv_iv] at hr
  have hrt : rightB ep (l.map fun n : Nat => (n : Int)) = true := by
    unfold rightB
    rw [decide_eq_true (show (1 : Int) ≤ (ep : Int) from by omega), decide_eq_true (show (ep : Int) ≤ 1099511627776 from by omega), decide_eq_true (show (l.map fun n : Nat => (n : Int)).length ≤ 64 from by simpa using hl), decide_eq_true (goods hg)]
    rfl
  rw [hrt] at hr
  have hbl := bodyL_len h2 hl hg
  have hft := fun A c w => fit_no (bodyL ep l).length ((sz - 8 : Nat) : Int) A c w (by omega) (by omega) (by omega) (.inr (.inr (by omega)))
  have H := Lib.hid (And.intro hs (And.intro hr (And.intro hft hg)))
  have hsub : (sz : Int) - 8 = ((sz - 8 : Nat) : Int) := by omega
  obtain ⟨w0, rfl⟩ : ∃ w0 : World, w0 = w := ⟨_, rfl⟩
  obtain ⟨sz8, hsz8⟩ : ∃ s, sz - 8 = s := ⟨_, rfl⟩
  rw [hsz8] at hsub H
  have HWR := Lib.hid (show IntKind.i64.wrap ((if (sz : Int) < 8 then 8 else (sz : Int)) - 8) = (sz8 : Int) from by rw [if_neg (by omega), hsub]; exact wrap_nat (by omega))
  clear hsub
  have HZ := Lib.hid hsz8
  clear hs hr hrt hft hg hsz8
  go_enter Tryz.func82, Tryz.ntmps82
  go_wp2_with (go_at_call 109; (refine (H.out.2.1 _ (H.out.1.grew ((Chg.refl _ _).alloc _)) (by omega)).mono ?_); rintro e w1 ⟨rfl, hg1⟩; have HG1 := Lib.hid hg1; clear hg1)
  obtain ⟨b0, hb0⟩ : ∃ b, w0.heap.size = b := ⟨_, rfl⟩
  have HB := Lib.hid (show Blk w1 b0 89 #[.int .i64 ep, .slice A l.length c] from hb0 ▸ (Blk.new w0 89 #[.int .i64 ep, .slice A l.length c]).grew HG1.out)
  have HG0 := Lib.hid (Grew.trans ((Chg.refl NoF w0).alloc _) HG1.out)
  obtain ⟨W2, hW2⟩ : ∃ W2, w1.alloc (.cells #[.slice none 0 0] 146) = W2 := ⟨_, rfl⟩
  have HO2 := Lib.hid (show OutIs w1 W2 w1.heap.size [] from hW2 ▸ OutIs.made w1 w1 (Chg.refl _ _))
  have HG2 := Lib.hid (show Grew w1 W2 from hW2 ▸ (Chg.refl _ _).alloc _)
  obtain ⟨o, ho⟩ : ∃ o, w1.heap.size = o := ⟨_, rfl⟩
  rw [ho] at HO2 ⊢
  rw [hb0, hW2]
  have hS : W2.drew.cell? ⟨b0, 0, none⟩ = some (.int .i64 ep) ∧ W2.drew.cell? ⟨b0, 1, none⟩ = some (.slice A l.length c) := ⟨(HB.out.grew HG2.out).cell 0, (HB.out.grew HG2.out).cell 1⟩
  have Hb0 := Lib.hid hb0
  clear hW2 ho HG1 hb0
  refine wp_region_held_drew (S := fun w' => w'.cell? ⟨b0, 0, none⟩ = some (.int .i64 ep) ∧ w'.cell? ⟨b0, 1, none⟩ = some (.slice A l.length c)) (by kernel_rfl) hS (fun hHeld => ?_)
  have hb2 := (HB.out.grew HG2.out).lt
  have keep : ∀ w', Grew w1 w' → w'.cell? ⟨b0, 0, none⟩ = some (.int .i64 ep) ∧ w'.cell? ⟨b0, 1, none⟩ = some (.slice A l.length c) := fun w' hg => ⟨(HB.out.grew hg).cell 0, (HB.out.grew hg).cell 1⟩
  have KP := Lib.hid keep
  clear keep hS
  refine wpAnyH_take (i := 0) (v := ?_) rfl (by kernel_rfl) (by kernel_rfl) (by kernel_rfl) (fun _ _ _ h => h) (Or.inl ⟨by rfl, ?_⟩) hHeld ?_
  rotate_left
  · (intro w hSw; (try dsimp only at hSw); go_simp) <;> with_reducible rfl
  (try simp only [Act.put, List.setIfInBounds_toArray, List.set_cons_zero, List.set_cons_succ, List.getElem_toArray, List.getElem_cons_zero, List.getElem_cons_succ])
  refine wpAnyH_take (i := 1) (v := ?_) rfl (by kernel_rfl) (by kernel_rfl) (by kernel_rfl) (fun _ _ _ h => h) (Or.inl ⟨by rfl, ?_⟩) hHeld ?_
  rotate_left
  · (intro w hSw; (try dsimp only at hSw); go_simp) <;> with_reducible rfl
  (try simp only [Act.put, List.setIfInBounds_toArray, List.set_cons_zero, List.set_cons_succ, List.getElem_toArray, List.getElem_cons_zero, List.getElem_cons_succ])
  refine wpAnyH_take (i := 3) (v := ?_) rfl (by kernel_rfl) (by kernel_rfl) (by kernel_rfl) (fun _ _ _ h => h) (Or.inl ⟨by rfl, ?_⟩) hHeld ?_
  rotate_left
  · (intro w hSw; (try dsimp only at hSw); go_simp) <;> with_reducible rfl
  (try simp only [Act.put, List.setIfInBounds_toArray, List.set_cons_zero, List.set_cons_succ, List.getElem_toArray, List.getElem_cons_zero, List.getElem_cons_succ])
  refine wpAnyH_take (i := 4) (v := ?_) rfl (by kernel_rfl) (by kernel_rfl) (by kernel_rfl) (fun _ _ _ h => h) (Or.inl ⟨by rfl, ?_⟩) hHeld ?_
  rotate_left
  · (intro w hSw; (try dsimp only at hSw); go_simp) <;> with_reducible rfl
  (try simp only [Act.put, List.setIfInBounds_toArray, List.set_cons_zero, List.set_cons_succ, List.getElem_toArray, List.getElem_cons_zero, List.getElem_cons_succ])
  refine wpAnyH_take (i := 7) (v := ?_) rfl (by kernel_rfl) (by kernel_rfl) (by kernel_rfl) (fun _ _ _ h => h) (Or.inl ⟨by rfl, ?_⟩) hHeld ?_
  rotate_left
  · (intro w hSw; (try dsimp only at hSw); go_simp) <;> with_reducible rfl
  (try simp only [Act.put, List.setIfInBounds_toArray, List.set_cons_zero, List.set_cons_succ, List.getElem_toArray, List.getElem_cons_zero, List.getElem_cons_succ])
  refine wpAnyH_take (i := 8) (v := ?_) rfl (by kernel_rfl) (by kernel_rfl) (by kernel_rfl) (fun _ _ _ h => h) (Or.inl ⟨by rfl, ?_⟩) hHeld ?_
  rotate_left
  · (intro w hSw; (try dsimp only at hSw); go_simp) <;> with_reducible rfl
  (try simp only [Act.put, List.setIfInBounds_toArray, List.set_cons_zero, List.set_cons_succ, List.getElem_toArray, List.getElem_cons_zero, List.getElem_cons_succ])
  refine wpAnyH_take (i := 9) (v := ?_) rfl (by kernel_rfl) (by kernel_rfl) (by kernel_rfl) (fun _ _ _ h => h) (Or.inl ⟨by rfl, ?_⟩) hHeld ?_
  rotate_left
  · (intro w hSw; (try dsimp only at hSw); go_simp) <;> with_reducible rfl
  (try simp only [Act.put, List.setIfInBounds_toArray, List.set_cons_zero, List.set_cons_succ, List.getElem_toArray, List.getElem_cons_zero, List.getElem_cons_succ])
  refine wpAnyH_ready (rs := [2]) (by kernel_rfl) (by simp) ?_
  refine AllReadyH.cons rfl (fun K hK => ?_) AllReadyH.nil
  go_simp
  refine (oint_any w1 o [] ep _ (HO2.out.on ((Chg.refl _ _).drew)) (by simp) (by omega)).mono ?_
  rintro e w3 ⟨rfl, ho3⟩
  have HO3 := Lib.hid ho3
  have hHeld3 := KP.out w3 ho3.grew
  clear ho3
  refine hK.out _ _ hHeld3 (fun _ => ?_)
  clear hK K
  (try simp only [Act.put, List.setIfInBounds_toArray, List.set_cons_zero, List.set_cons_succ, List.getElem_toArray, List.getElem_cons_zero, List.getElem_cons_succ])
  refine wpAnyH_ready (rs := [5]) (by kernel_rfl) (by simp) ?_
  refine AllReadyH.cons rfl (fun K hK => ?_) AllReadyH.nil
  go_simp
  refine (oints_any w1 o ([] ++ grp (2 * ep)) l A c _ HO3.out (H.out.1.grew HG0.out) (by have := grp_len 10 (2 * ep) (by omega) (by omega); simp; omega) (by omega) (fun n hn => by have := H.out.2.2.2 n hn; omega)).mono ?_
  rintro e w4 ⟨rfl, ho4⟩
  have HO4 := Lib.hid (show OutIs w1 w4 o (bodyL ep l) from by simpa [bodyL] using ho4)
  have hHeld4 := KP.out w4 ho4.grew
  clear ho4
  refine hK.out _ _ hHeld4 (fun _ => ?_)
  clear hK K
  (try simp only [Act.put, List.setIfInBounds_toArray, List.set_cons_zero, List.set_cons_succ, List.getElem_toArray, List.getElem_cons_zero, List.getElem_cons_succ])
  refine wpAnyH_ready (rs := [6]) (by kernel_rfl) (by simp) ?_
  refine AllReadyH.cons rfl (fun K hK => ?_) AllReadyH.nil
  go_simp
  refine (oall_any w1 o (bodyL ep l) _ HO4.out hbl.2 (by omega)).mono ?_
  rintro e w5 ⟨A5, c5, rfl, ho5, hg5⟩
  have HO5 := Lib.hid (And.intro ho5 (Grew.trans HO4.out.grew hg5))
  have hHeld5 := KP.out w5 HO5.out.2
  clear ho5 hg5
  refine hK.out _ _ hHeld5 (fun _ => ?_)
  clear hK K
  (try simp only [Act.put, List.setIfInBounds_toArray, List.set_cons_zero, List.set_cons_succ, List.getElem_toArray, List.getElem_cons_zero, List.getElem_cons_succ])
  refine wpAnyH_ready (rs := [10]) (by kernel_rfl) (by simp) ?_
  refine AllReadyH.cons rfl (fun K hK => ?_) AllReadyH.nil
  go_simp
  rw [HWR.out]
  ((with_reducible refine (H.out.2.2.1 A5 c5 _).mono ?_))
  rintro e w6 ⟨rfl, rfl⟩
  refine hK.out _ _ hHeld5 (fun _ => ?_)
  clear hK K
  (try simp only [Act.put, List.setIfInBounds_toArray, List.set_cons_zero, List.set_cons_succ, List.getElem_toArray, List.getElem_cons_zero, List.getElem_cons_succ])
  refine wpAnyH_take (i := 11) (v := ?_) rfl (by kernel_rfl) (by kernel_rfl) (by kernel_rfl) (fun _ _ _ h => h) (Or.inl ⟨by rfl, ?_⟩) hHeld5 ?_
  rotate_left
  · (intro w hSw; (try dsimp only at hSw); go_simp) <;> with_reducible rfl
  (try simp only [Act.put, List.setIfInBounds_toArray, List.set_cons_zero, List.set_cons_succ, List.getElem_toArray, List.getElem_cons_zero, List.getElem_cons_succ])
  refine wpAnyH_take (i := 12) (v := ?_) rfl (by kernel_rfl) (by kernel_rfl) (by kernel_rfl) (fun _ _ _ h => h) (Or.inl ⟨by rfl, ?_⟩) hHeld5 ?_
  rotate_left
  · (intro w hSw; (try dsimp only at hSw); go_simp) <;> with_reducible rfl
  (try simp only [Act.put, List.setIfInBounds_toArray, List.set_cons_zero, List.set_cons_succ, List.getElem_toArray, List.getElem_cons_zero, List.getElem_cons_succ])
  refine wpAnyH_take (i := 13) (v := ?_) rfl (by kernel_rfl) (by kernel_rfl) (by kernel_rfl) (fun _ _ _ h => h) (Or.inl ⟨by rfl, ?_⟩) hHeld5 ?_
  rotate_left
  · (intro w hSw; (try dsimp only at hSw); go_simp) <;> with_reducible rfl
  (try simp only [Act.put, List.setIfInBounds_toArray, List.set_cons_zero, List.set_cons_succ, List.getElem_toArray, List.getElem_cons_zero, List.getElem_cons_succ])
  refine wpAnyH_take (i := 14) (v := ?_) rfl (by kernel_rfl) (by kernel_rfl) (by kernel_rfl) (fun _ _ _ h => h) (Or.inl ⟨by rfl, ?_⟩) hHeld5 ?_
  rotate_left
  · (intro w hSw; (try dsimp only at hSw); go_simp) <;> with_reducible rfl
  (try simp only [Act.put, List.setIfInBounds_toArray, List.set_cons_zero, List.set_cons_succ, List.getElem_toArray, List.getElem_cons_zero, List.getElem_cons_succ])
  refine wpAnyH_ready (rs := [15]) (by kernel_rfl) (by simp) ?_
  refine AllReadyH.cons rfl (fun K hK => ?_) AllReadyH.nil
  go_simp
  refine hK.out _ _ hHeld5 (fun _ => ?_)
  clear hK K
  (try simp only [Act.put, List.setIfInBounds_toArray, List.set_cons_zero, List.set_cons_succ, List.getElem_toArray, List.getElem_cons_zero, List.getElem_cons_succ])
  refine wpAnyH_done (by kernel_rfl) ?_ _
  go_wp2
  go_ret2
  exact ⟨rfl, Grew.trans HG0.out HO5.out.2⟩

/-- Do so many numbers fit? -/
def fitsN (n sz : Nat) : Bool := decide ((bodyL 1099511627776 (List.replicate n 4095)).length + 14 ≤ sz)

set_option maxHeartbeats 800000 in
theorem fits_any (n sz : Nat) (w : World) (hn : n ≤ 64) (hlo : 8 ≤ sz) (hsz : sz ≤ 4096) :
    Calls Tryz.prog 86 #[.int .i64 n, .int .i64 sz] w fun e w' => e = .returned (.bool (fitsN n sz)) ∧ Grew w w' := by
  have hrep : ∀ m ∈ List.replicate n 4095, m < 4096 := fun m hm => by rw [List.eq_of_mem_replicate hm]; omega
  have hlen : (List.replicate n 4095).length = n := List.length_replicate
  have a1 : decide ((n : Int) < 0) = false := decide_eq_false (by omega)
  have a2 : decide ((64 : Int) < (n : Int)) = false := decide_eq_false (by omega)
  by_cases hfit : (bodyL 1099511627776 (List.replicate n 4095)).length + 14 ≤ sz
  · have hf : fitsN n sz = true := decide_eq_true hfit
    rw [hf]
    have hb : ∀ A c w, Sl w 1 A n (nv (List.replicate n 4095)) → Calls Tryz.prog 82 #[.agg #[.int .i64 1099511627776, .slice A n c], .int .i64 sz] w fun e w' => OwnOut w w' 5 1 sz (bv (rootL 1099511627776 (List.replicate n 4095) sz)) (fun A c => .tuple #[.slice A sz c, .int .i64 0]) e := fun A c w h => by
      have := rbytes_ok 1099511627776 (List.replicate n 4095) sz A c w (by rw [hlen]; exact h) (by omega) (by omega) (by omega) hrep hsz hfit
      rw [hlen] at this
      exact this
    have H := Lib.hid hb
    clear hb hf hfit hlen hrep
    go_enter Tryz.func86, Tryz.ntmps86
    go_wp2_with (first
      | (go_at_call 116; (refine (repeat_any n 4095 _ 1 _ hn (Blk.new _ _ _)).mono ?_); rintro e w1 ⟨A1, c1, rfl, h1, h2⟩; have HR := Lib.hid (And.intro h1 h2); clear h1 h2)
      | (go_at_call 82; (refine (H.out A1 c1 _ (Sl.of_own (own_base HR.out.1 (Nat.zero_le _)))).mono ?_); rintro e w2 ⟨A2, c2, rfl, h3, h4⟩; have HS := Lib.hid (And.intro h3 h4); clear h3 h4))
    go_ret
    exact ⟨rfl, Grew.trans (Grew.trans ((Chg.refl _ _).alloc _) HR.out.2) HS.out.2⟩
  · have hf : fitsN n sz = false := decide_eq_false hfit
    rw [hf]
    have hb : ∀ A c w, Sl w 1 A n (nv (List.replicate n 4095)) → Calls Tryz.prog 82 #[.agg #[.int .i64 1099511627776, .slice A n c], .int .i64 sz] w fun e w' => e = .returned (.tuple #[.slice none 0 0, .int .i64 12]) ∧ Grew w w' := fun A c w h => by
      have := rbytes_many 1099511627776 (List.replicate n 4095) sz A c w (by rw [hlen]; exact h) (by omega) (by omega) (by omega) hrep hsz hlo (by omega)
      rw [hlen] at this
      exact this
    have H := Lib.hid hb
    clear hb hf hfit hlen hrep
    go_enter Tryz.func86, Tryz.ntmps86
    go_wp2_with (first
      | (go_at_call 116; (refine (repeat_any n 4095 _ 1 _ hn (Blk.new _ _ _)).mono ?_); rintro e w1 ⟨A1, c1, rfl, h1, h2⟩; have HR := Lib.hid (And.intro h1 h2); clear h1 h2)
      | (go_at_call 82; (refine (H.out A1 c1 _ (Sl.of_own (own_base HR.out.1 (Nat.zero_le _)))).mono ?_); rintro e w2 ⟨rfl, h4⟩; have HS := Lib.hid h4; clear h4))
    go_ret
    exact ⟨rfl, Grew.trans (Grew.trans ((Chg.refl _ _).alloc _) HR.out.2) HS.out⟩

end Go.Proofs.YtjkkoogfaibhiaaGreatDoor

/- The roots: what is no root; Load on an empty disk. -/
namespace Go.Proofs.YtjkkoogfaibhiaaGreatDoor
open Go.RowKit

def crcZ : Nat → Nat → Bool
  | 0, _ => true
  | n + 1, x => !Nat.beq x 4294967295 && crcZ n (crcS x 0)
theorem crcZ_no : ∀ (n x : Nat), crcZ n x = true → ∀ k, k < n → crcR x (List.replicate k 0) ≠ 4294967295
  | 0, _, _, k, hk => by omega
  | n + 1, x, h, k, hk => by
    simp only [crcZ, Bool.and_eq_true, Bool.not_eq_true'] at h
    cases k with
    | zero =>
      intro e
      have e' : x = 4294967295 := e
      rw [e'] at h
      simp at h
    | succ k =>
      rw [List.replicate_succ]
      exact crcZ_no n (crcS x 0) h.2 k (by omega)
set_option maxRecDepth 100000 in
theorem crcZ_all : crcZ 4096 (crcS 4294967295 0) = true := by kernel_rfl
theorem xor_zero_eq {a b : Nat} (h : a ^^^ b = 0) : b = a := by
  have : a ^^^ (a ^^^ b) = b := by rw [← Nat.xor_assoc, Nat.xor_self, Nat.zero_xor]
  rw [h, Nat.xor_zero] at this
  exact this.symm
theorem crc_zeros (n : Nat) (h : 1 ≤ n) (h2 : n ≤ 4096) : crc (List.replicate n 0) ≠ 0 := by
  obtain ⟨k, rfl⟩ : ∃ k, n = k + 1 := ⟨n - 1, by omega⟩
  intro e
  have := crcZ_no 4096 _ crcZ_all k (by omega)
  refine this ?_
  have h3 := xor_zero_eq e
  rw [List.replicate_succ] at h3
  exact h3
theorem lowB_zero {x : Nat} (hx : x < 4294967296) (h : lowB x = [0, 0, 0, 0]) : x = 0 := by
  simp only [lowB, List.cons.injEq, and_true] at h
  omega
/-- Noughts are no sealed bytes. -/
theorem part_zeros (m : Nat) (h : 6 ≤ m) (h2 : m ≤ 4096) : partL (List.replicate m 0) = none := by
  have hc : cntL (List.replicate m 0) = 0 := by
    unfold cntL
    rw [List.getElem?_replicate, List.getElem?_replicate, if_pos (by omega), if_pos (by omega)]
    rfl
  unfold partL
  rw [hc, if_neg (by omega), List.take_zero]
  rw [List.length_replicate]
  have hf : fitL [] (m - 4) = List.replicate (m - 4) 0 := by
    unfold fitL
    have e : m - 4 = (m - 4 - 2) + 1 + 1 := by omega
    rw [e, List.replicate_succ, List.replicate_succ]
    simp
  have hb : ∀ x ∈ List.replicate m (0 : Int), 0 ≤ x ∧ x ≤ 255 := fun x hx => by rw [List.eq_of_mem_replicate hx]; omega
  rw [eqB_eq (sealL_byte (by simp)) hb, decide_eq_false]
  · rfl
  · intro e
    unfold sealL at e
    rw [hf, show List.replicate m (0 : Int) = List.replicate (m - 4) 0 ++ [0, 0, 0, 0] from by
      rw [show [(0 : Int), 0, 0, 0] = List.replicate 4 0 from rfl, List.replicate_append_replicate]; congr 1; omega] at e
    have := List.append_cancel_left e
    exact crc_zeros (m - 4) (by omega) (by omega) (lowB_zero (crc_lt fun x hx => by rw [List.eq_of_mem_replicate hx]; omega) this)

set_option maxRecDepth 100000 in
set_option maxHeartbeats 1600000 in
theorem parse_no (b : List Int) (A : Option Addr) (c : Nat) (w : World) (hl : 14 ≤ b.length) (hm : b.length ≤ 65536) (hs : Sl w 1 A b.length (bv b)) (hb : ∀ x ∈ b, 0 ≤ x ∧ x ≤ 255) (hc : b.length ≤ c) (hp : partL (b.take (b.length - 8)) = none) :
    Calls Tryz.prog 88 #[.slice A b.length c] w fun e w' => e = .returned (.tuple #[.agg #[.int .i64 0, .slice none 0 0], .bool false]) ∧ Grew w w' := by
  have hlen : (b.take (b.length - 8)).length = b.length - 8 := by rw [List.length_take]; omega
  have hpt : ∀ w', Grew w w' → Calls Tryz.prog 117 #[.slice A (b.length - 8) c] w' fun e w2 => e = .returned (.tuple #[.slice none 0 0, .bool false]) ∧ Grew w' w2 := fun w' hg => by
    have := part_any (b.take (b.length - 8)) A c w' (by omega) (by omega) (by
      refine ⟨by rw [bv_len]; omega, fun _ => ?_⟩
      obtain ⟨g, off, e, hg, hx⟩ := (hs.grew hg).2 (by omega)
      refine ⟨g, off, e, hg, fun j u hu => hx j u ?_⟩
      have hj : j < b.length - 8 := by have := (List.getElem?_eq_some_iff.1 hu).1; rwa [bv_len, hlen] at this
      rw [← hu]
      simp [bv, List.getElem?_take, hj]) (fun x hx => hb x (List.mem_of_mem_take hx)) (by omega)
    rw [hlen] at this
    refine this.mono fun e w2 h => ?_
    rw [hp] at h
    exact h
  have H := Lib.hid hpt
  have d1 : (8 : Int) ≤ (b.length : Int) := by omega
  have d2 : ((b.length : Int) - 8).toNat = b.length - 8 := by omega
  have d3 : (b.length : Int) - 8 ≤ (c : Int) := by omega
  clear hpt hlen hp hb hs
  go_enter Tryz.func88, Tryz.ntmps88
  go_wp2_with (go_at_call 117; (refine (H.out _ ((Chg.refl _ _).alloc _)).mono ?_); rintro e w1 ⟨rfl, h1⟩; obtain ⟨c0, f0, s0⟩ := ((Blk.new w 89 #[.int .i64 0, .slice none 0 0]).grew h1).facts; have H1 := Lib.hid h1; clear h1)
  refine bodyPost_ret (v := .tuple #[.agg #[.int .i64 0, .slice none 0 0], .bool false]) (by simp [results, Tryz.results88, go_sem, c0, f0, s0]) rfl ⟨rfl, ?_⟩
  exact ((Grew.trans ((Chg.refl NoF w).alloc _) H1.out).setCell (p := ⟨w.heap.size, 0, none⟩) (fun e => absurd e (Nat.lt_irrefl _)) _).setCell (p := ⟨w.heap.size, 1, none⟩) (fun e => absurd e (Nat.lt_irrefl _)) _

def rootZ : Array Value := #[.int .i64 0, .slice none 0 0]
set_option maxRecDepth 100000 in
set_option maxHeartbeats 3200000 in
theorem load_none (d : Nat) (F : Nat → Prop) (D : Dk) (w : World) (h : DS w d F D) (hd : D.down = false) (hn : 2 ≤ D.n) (hz : 14 ≤ D.sz) (hp : ∀ i : Nat, i < 2 → partL ((D.rd i).take (D.sz - 8)) = none) (hby : ∀ i : Nat, i < 2 → ∀ x ∈ D.rd i, 0 ≤ x ∧ x ≤ 255) :
    Calls Tryz.prog 56 #[.pointer (some ⟨d, 0, none⟩)] w fun e w' => e = .returned (.tuple #[.agg #[.int .i64 0, .slice none 0 0], .int .i64 14]) ∧ Grew w w' := by
  have hsm := h.sml
  have hrl : ∀ i : Nat, i < 2 → (D.rd i).length = D.sz := fun i hi => h.rd_len (by omega) (by omega)
  have hrd : ∀ w', Grew w w' → ∀ i : Nat, i < 2 → Calls Tryz.prog 87 #[.pointer (some ⟨d, 0, none⟩), .int .i64 (i : Int)] w' fun e w2 => OwnOut w' w2 5 1 D.sz (bv (D.rd i)) (fun A c => .tuple #[.slice A D.sz c, .int .i64 0]) e := fun w' hg i hi => dread_ok d i F D w' (h.grew hg) hd (by omega) (by omega)
  have hps : ∀ (i : Nat) (A : Option Addr) (c : Nat) (w' : World), i < 2 → Sl w' 1 A D.sz (bv (D.rd i)) → D.sz ≤ c → Calls Tryz.prog 88 #[.slice A D.sz c] w' fun e w2 => e = .returned (.tuple #[.agg #[.int .i64 0, .slice none 0 0], .bool false]) ∧ Grew w' w2 := fun i A c w' hi hs hc => by
    have := parse_no (D.rd i) A c w' (by rw [hrl i hi]; exact hz) (by rw [hrl i hi]; omega) (by rw [hrl i hi]; exact hs) (hby i hi) (by rw [hrl i hi]; exact hc) (by rw [hrl i hi]; exact hp i hi)
    rwa [hrl i hi] at this
  have H := Lib.hid (And.intro h (And.intro hrd hps))
  have hmin : min (2 : Int) (D.n : Int) = 2 := by omega
  have hmn : ¬ (D.n : Int) < 2 := by omega
  obtain ⟨w0, rfl⟩ : ∃ w0 : World, w0 = w := ⟨_, rfl⟩
  clear h hrd hps hp hby hrl
  go_enter Tryz.func56, Tryz.ntmps56
  go_wp2_with (go_at_call 51; (refine (dsectors_any d F D _ (H.out.1.grew (((Chg.refl _ _).alloc _).alloc _))).mono ?_); rintro e w1 ⟨rfl, rfl⟩)
  obtain ⟨W2, hW2⟩ : ∃ W, (w0.alloc (.cells #[.int .i64 0, .slice none 0 0] 89)).alloc (.cells #[.int .i64 0, .slice none 0 0] 89) = W := ⟨_, rfl⟩
  obtain ⟨R, hR⟩ : ∃ R, w0.heap.size = R := ⟨_, rfl⟩
  have HB := Lib.hid (show Blk W2 R 89 rootZ ∧ Blk W2 (R + 1) 89 rootZ ∧ Grew w0 W2 from hW2 ▸ hR ▸ ⟨(Blk.new w0 _ _).alloc _, by have := Blk.new (w0.alloc (.cells rootZ 89)) 89 rootZ; simpa [rootZ] using this, ((Chg.refl _ _).alloc _).alloc _⟩)
  have HR := Lib.hid hR
  rw [hW2, hR]
  clear hW2 hR
  go_loopw [5, 13] (fun x i wr => ∃ k : Nat, k ≤ 2 ∧ i = .int .i64 k ∧ Blk wr R 89 rootZ ∧ Blk wr (R + 1) 89 rootZ ∧ Grew w0 wr) (fun _ i _ => 2 - (intOf i).toNat)
  case atStart => exact ⟨0, Nat.zero_le _, rfl, HB.out⟩
  case round =>
    obtain ⟨k, hk, rfl, hb1, hb2, hg⟩ := hrel
    have HW := Lib.hid (And.intro hb1 (And.intro hb2 hg))
    clear hb1 hb2 hg
    by_cases hlt : k < 2
    · go_wp2_with (first
        | (go_at_call 87; (refine (H.out.2.1 _ HW.out.2.2 k hlt).mono ?_); rintro e w3 ⟨A3, c3, rfl, h3, h4⟩; have H3 := Lib.hid (And.intro h3 h4); clear h3 h4)
        | (go_at_call 88; (refine (H.out.2.2 k A3 c3 _ hlt (Sl.of_own (own_base H3.out.1 (Nat.zero_le _))) (by obtain ⟨A', c', e, hc⟩ := own_shape H3.out.1; injection e with e1 e2 e3; omega)).mono ?_); rintro e w4 ⟨rfl, h5⟩; have H5 := Lib.hid h5; obtain ⟨c0, f0, s0⟩ := ((HW.out.2.1.grew H3.out.2).grew h5).facts; clear h5))
      exact ⟨⟨k + 1, by omega, by simp, ((HW.out.1.grew H3.out.2).grew H5.out).alloc _, ((HW.out.2.1.grew H3.out.2).grew H5.out).alloc _, (Grew.trans (Grew.trans HW.out.2.2 H3.out.2) H5.out).alloc _⟩, by simp [intOf]; omega⟩
    · obtain rfl : k = 2 := by omega
      obtain ⟨c0, f0, s0⟩ := (show Blk wr R 89 #[.int .i64 0, .slice none 0 0] from HW.out.1).facts
      obtain ⟨c1, f1, s1⟩ := HW.out.2.1.facts
      have c10 := c1 0
      simp only [rootZ, List.getElem?_toArray, List.getElem?_cons_zero] at c10
      clear c1 f1
      go_wp2
      refine bodyPost_ret (v := .tuple #[.agg #[.int .i64 0, .slice none 0 0], .int .i64 14]) (by simp [results, Tryz.results56, go_sem, c0, f0, s0]) rfl ⟨rfl, ?_⟩
      exact (HW.out.2.2.setCell (p := ⟨R, 0, none⟩) (fun e => absurd e (by have := HR.out; simp only; omega)) _).setCell (p := ⟨R, 1, none⟩) (fun e => absurd e (by have := HR.out; simp only; omega)) _

end Go.Proofs.YtjkkoogfaibhiaaGreatDoor

/- The pager: places; a new one on an empty disk. -/
namespace Go.Proofs.YtjkkoogfaibhiaaGreatDoor
open Go.RowKit Go.Maps

/-- How many table pages, from k on. -/
def tabs (row need sz : Nat) : Nat → Nat → Nat
  | 0, k => k
  | f + 1, k => if fitsN (k + 1) sz = true ∧ k * row < need then tabs row need sz f (k + 1) else k
theorem tabs_le (row need sz : Nat) : ∀ f k, k ≤ tabs row need sz f k ∧ tabs row need sz f k ≤ k + f
  | 0, k => ⟨Nat.le_refl _, Nat.le_refl _⟩
  | f + 1, k => by
    unfold tabs
    split
    · have := tabs_le row need sz f (k + 1); omega
    · omega
/-- How many table pages a disk has. -/
def tabN (n sz : Nat) : Nat := tabs (sz / 2) (n - 2) sz 64 0
def capN (n sz : Nat) : Nat := if n - 2 ≤ tabN n sz * (sz / 2) then n - 2 else tabN n sz * (sz / 2)

theorem ret_two {a b a' b' : Int} (h1 : a = a') (h2 : b = b') : Ending.returned (.tuple #[.int .i64 a, .int .i64 b]) = .returned (.tuple #[.int .i64 a', .int .i64 b']) := by rw [h1, h2]

set_option maxRecDepth 100000 in
set_option maxHeartbeats 1600000 in
theorem places_any (n sz : Nat) (w : World) (h1 : 8 ≤ n) (h2 : n ≤ 4096) (h3 : 64 ≤ sz) (h4 : sz ≤ 4096) :
    Calls Tryz.prog 53 #[.int .i64 n, .int .i64 sz] w fun e w' => e = .returned (.tuple #[.int .i64 (tabN n sz), .int .i64 (capN n sz)]) ∧ Grew w w' := by
  obtain ⟨row, hrow⟩ : ∃ r, sz / 2 = r := ⟨_, rfl⟩
  obtain ⟨need, hneed⟩ : ∃ r, n - 2 = r := ⟨_, rfl⟩
  have hcap : capN n sz = if need ≤ tabN n sz * row then need else tabN n sz * row := by unfold capN; rw [hrow, hneed]
  have htab : tabN n sz = tabs row need sz 64 0 := by unfold tabN; rw [hrow, hneed]
  obtain ⟨T, hT⟩ : ∃ T, tabs row need sz 64 0 = T := ⟨_, rfl⟩
  rw [hT] at htab
  rw [htab] at hcap
  have HCAP := Lib.hid hcap
  have HTAB := Lib.hid htab
  have e1 : (sz : Int) / 2 = (row : Int) := by omega
  have e2 : (n : Int) - 2 = (need : Int) := by omega
  have hr4 : row ≤ 2048 := by omega
  have hn4 : need ≤ 4096 := by omega
  have HT := Lib.hid hT
  obtain ⟨w0, rfl⟩ : ∃ w0 : World, w0 = w := ⟨_, rfl⟩
  clear hcap htab hT hrow hneed
  go_enter Tryz.func53, Tryz.ntmps53
  go_wp2
  go_loopw [4] (fun i wr => ∃ k : Nat, k ≤ 64 ∧ i = .int .i64 k ∧ tabs row need sz (64 - k) k = T ∧ Grew w0 wr) (fun i _ => 64 - (intOf i).toNat)
  case atStart => exact ⟨0, Nat.zero_le _, rfl, HT.out, Chg.refl _ _⟩
  case round =>
    obtain ⟨k, hk, rfl, hTk, hg⟩ := hrel
    have HG := Lib.hid hg
    have hkr : k * row ≤ 64 * 2048 := Nat.mul_le_mul hk hr4
    have em : (k : Int) * (row : Int) = ((k * row : Nat) : Int) := by simp
    obtain ⟨m, hm⟩ : ∃ m, k * row = m := ⟨_, rfl⟩
    rw [hm] at em hkr
    have HM := Lib.hid hm
    by_cases hlt : k < 64
    · have ht : tabs row need sz (64 - k) k = if fitsN (k + 1) sz = true ∧ k * row < need then tabs row need sz (64 - (k + 1)) (k + 1) else k := by
        rw [show 64 - k = (64 - (k + 1)) + 1 from by omega]; rfl
      rw [ht, hm] at hTk
      clear hg ht hm
      cases hf : fitsN (k + 1) sz with
      | true =>
        rw [hf] at hTk
        have hfa := fun u => fits_any (k + 1) sz u (by omega) (by omega) h4
        rw [hf] at hfa
        have HFA := Lib.hid hfa
        by_cases hmn : m < need
        · rw [if_pos ⟨rfl, hmn⟩] at hTk
          have HTK := Lib.hid hTk
          have a1 : decide ((m : Int) < (need : Int)) = true := decide_eq_true (by omega)
          clear hTk hf hfa
          go_wp2_with (go_at_call 86; (refine (HFA.out _).mono ?_); rintro e w1 ⟨rfl, hg1⟩; have HG1 := Lib.hid (Grew.trans HG.out hg1); clear hg1)
          exact ⟨⟨k + 1, by omega, by simp, HTK.out, HG1.out⟩, by simp [intOf]; omega⟩
        · rw [if_neg (fun h => hmn h.2)] at hTk
          have HTK := Lib.hid hTk
          have a1 : decide ((m : Int) < (need : Int)) = false := decide_eq_false (by omega)
          clear hTk hf hfa
          go_wp2_with (go_at_call 86; (refine (HFA.out _).mono ?_); rintro e w1 ⟨rfl, hg1⟩; have HG1 := Lib.hid (Grew.trans HG.out hg1); clear hg1)
          go_ret2
          refine ⟨ret_two (by rw [HTAB.out, HTK.out]) ?_, HG1.out⟩
          rw [HCAP.out, ← HTK.out, HM.out]
          (try split) <;> first | rfl | omega | (split <;> omega)
      | false =>
        rw [hf, if_neg (fun h => by cases h.1)] at hTk
        have hfa := fun u => fits_any (k + 1) sz u (by omega) (by omega) h4
        rw [hf] at hfa
        have HFA := Lib.hid hfa
        have HTK := Lib.hid hTk
        clear hTk hf hfa
        go_wp2_with (go_at_call 86; (refine (HFA.out _).mono ?_); rintro e w1 ⟨rfl, hg1⟩; have HG1 := Lib.hid (Grew.trans HG.out hg1); clear hg1)
        all_goals
          go_ret2
          refine ⟨ret_two (by rw [HTAB.out, HTK.out]) ?_, HG1.out⟩
          rw [HCAP.out, ← HTK.out, HM.out]
          (try split) <;> first | rfl | omega | (split <;> omega)
    · obtain rfl : k = 64 := by omega
      have HTK := Lib.hid (show (64 : Nat) = T from hTk)
      clear hg hTk hm
      go_wp2
      all_goals
        go_ret2
        refine ⟨ret_two (by rw [HTAB.out, ← HTK.out]; rfl) ?_, HG.out⟩
        rw [HCAP.out, ← HTK.out, HM.out]
        (try split) <;> first | rfl | omega | (split <;> omega)

end Go.Proofs.YtjkkoogfaibhiaaGreatDoor

/- The pager: what holds between its sectors, and what its pages are (plain). -/
namespace Go.Proofs.YtjkkoogfaibhiaaGreatDoor
open Go.RowKit Go.Maps

/-- What a page is: not used, noughts, the bytes of a sector that the root leads to, those of one that the change took. -/
inductive Pk where
  | no
  | zero
  | old (bs : List Int)
  | new (bs : List Int)
def Pk.used : Pk → Bool
  | .no => false
  | _ => true
def Pk.isNew : Pk → Bool
  | .new _ => true
  | _ => false
def Pk.isOld : Pk → Bool
  | .old _ => true
  | _ => false
def Pk.bytes (sz : Nat) : Pk → List Int
  | .no => []
  | .zero => List.replicate sz 0
  | .old bs => bs
  | .new bs => bs
/-- What an entry is. -/
def pk (D : Dk) (fr : Nat → Bool) (s : Nat) : Pk := if s = 0 then .no else if s = 1 then .zero else if fr s then .new (D.rd s) else .old (D.rd s)

/-- A root that is right. -/
def GoodR (ep : Nat) (pg : List Nat) : Prop := 1 ≤ ep ∧ ep ≤ 1099511627776 ∧ pg.length ≤ 64 ∧ ∀ s ∈ pg, s < 4096
/-- The bytes of a table page. -/
def tabL (tb : List Nat) (row sz k : Nat) : List Int :=
  ((List.range row).flatMap fun i => [((tb.getD (k * row + i) 0 % 256 : Nat) : Int), ((tb.getD (k * row + i) 0 / 256 % 256 : Nat) : Int)]) ++ List.replicate (sz - 2 * row) 0
/-- What is on the disk leads to these pages. -/
structure Dur (D : Dk) (ep : Nat) (pg tb : List Nat) : Prop where
  root : 1 ≤ ep → D.rd ((ep % 2 : Nat) : Int) = rootL ep pg D.sz
  other : ∀ (i e' : Nat) pg', i < 2 → GoodR e' pg' → e' % 2 = i → D.rd (i : Int) = rootL e' pg' D.sz → e' ≤ ep ∧ (e' = ep → pg' = pg)
  zero : ep = 0 → ∀ s ∈ pg, s = 0
  tab0 : ∀ k, pg[k]? = some 0 → ∀ i, i < D.sz / 2 → tb.getD (k * (D.sz / 2) + i) 0 = 0
  tabs : ∀ (k s : Nat), pg[k]? = some s → s ≠ 0 → D.rd (s : Int) = tabL tb (D.sz / 2) D.sz k
  tab1 : ∀ (k s : Nat), pg[k]? = some s → s ≠ 0 → ∃ i, i < D.sz / 2 ∧ tb.getD (k * (D.sz / 2) + i) 0 ≠ 0
theorem Dur.congr {D D' : Dk} {ep : Nat} {pg tb : List Nat} (h : Dur D ep pg tb) (hs : D'.sz = D.sz) (hr : ∀ s : Nat, (s < 2 ∨ (s ≠ 0 ∧ ∃ k : Nat, pg[k]? = some s)) → D'.rd (s : Int) = D.rd (s : Int)) : Dur D' ep pg tb := by
  refine ⟨fun h1 => ?_, fun i e' pg' hi hg he hd => ?_, h.zero, fun k hk => ?_, fun k s hk hs0 => ?_, fun k s hk hs0 => ?_⟩
  · rw [hr _ (.inl (Nat.mod_lt _ (by omega))), hs]; exact h.root h1
  · rw [hr _ (.inl hi), hs] at hd; exact h.other i e' pg' hi hg he hd
  · rw [hs]; exact h.tab0 k hk
  · rw [hr _ (.inr ⟨hs0, k, hk⟩), hs]; exact h.tabs k s hk hs0
  · rw [hs]; exact h.tab1 k s hk hs0

/-- What holds between a pager's sectors: its table pages', its pages', those that its pages had, those that are free, fresh, left, and the table pages that are touched. -/
structure Inv (D : Dk) (ep : Nat) (pg tb old : List Nat) (fe : List Bool) (fr : Nat → Bool) (lf : List Nat) (tc : Nat → Bool) : Prop where
  sz : 8 ≤ D.n ∧ D.n ≤ 4096 ∧ 64 ≤ D.sz ∧ D.sz ≤ 4096
  lens : fe.length = D.n ∧ pg.length = tabN D.n D.sz ∧ tb.length = capN D.n D.sz ∧ old.length = capN D.n D.sz
  rO : ∀ i s : Nat, old[i]? = some s → s < D.n
  rP : ∀ k s : Nat, pg[k]? = some s → s ≠ 0 → 2 ≤ s ∧ s < D.n
  jO : ∀ i j s : Nat, old[i]? = some s → old[j]? = some s → 2 ≤ s → i = j
  jP : ∀ i j s : Nat, pg[i]? = some s → pg[j]? = some s → s ≠ 0 → i = j
  dis : ∀ k i s : Nat, pg[k]? = some s → old[i]? = some s → s < 2
  acct : ∀ s, s < D.n → (fe.getD s false = false ↔ s < 2 ∨ (∃ k : Nat, pg[k]? = some s) ∨ (∃ i : Nat, old[i]? = some s) ∨ fr s = true)
  frr : ∀ s, fr s = true → 2 ≤ s ∧ s < D.n ∧ (∀ k : Nat, pg[k]? ≠ some s) ∧ (∀ i : Nat, old[i]? ≠ some s) ∧ ∃ i : Nat, tb[i]? = some s
  cur : ∀ i s : Nat, tb[i]? = some s → 2 ≤ s → fr s = true ∨ old[i]? = some s
  jT : ∀ i j s : Nat, tb[i]? = some s → tb[j]? = some s → 2 ≤ s → i = j
  lf : lf.Nodup ∧ ∀ s, s ∈ lf ↔ 2 ≤ s ∧ ∃ i : Nat, old[i]? = some s ∧ tb[i]? ≠ some s
  tcd : ∀ i : Nat, tb[i]? ≠ old[i]? → tc (i / (D.sz / 2)) = true
  tc6 : ∀ k, tc k = true → k < pg.length
  room : cntN tc 64 ≤ cnt fe
  cln : ∀ s : Nat, s < D.n → (s < 2 ∨ (∃ k : Nat, pg[k]? = some s) ∨ ∃ i : Nat, old[i]? = some s) → D.cache (s : Int) = none
  dur : Dur D ep pg old
  byt : ∀ s : Nat, s < D.n → ∀ x ∈ D.rd (s : Int), 0 ≤ x ∧ x ≤ 255
  epo : ep ≤ 1099511627776
  byd : ∀ s : Nat, s < D.n → ∀ x ∈ D.data s, 0 ≤ x ∧ x ≤ 255

theorem cnt_trn_no {fe : List Bool} {j : Nat} (h : fe.getD j false = true) : cnt (trn fe j) + 1 = cnt fe := by
  have hj : j < fe.length := by
    by_cases e : j < fe.length
    · exact e
    · rw [List.getD_eq_getElem?_getD, List.getElem?_eq_none (by omega)] at h; simp at h
  unfold cnt
  have e : (fun m => (trn fe j).getD m false) = setB (fun m => fe.getD m false) j false := by
    funext m
    unfold trn setB
    rw [getD_set _ _ _ _ hj, h]
    rfl
  have hl : (trn fe j).length = fe.length := List.length_set
  rw [e, hl]
  exact cntN_drop (fun m => fe.getD m false) hj h
theorem cnt_trn_yes {fe : List Bool} {j : Nat} (hj : j < fe.length) (h : fe.getD j false = false) : cnt (trn fe j) = cnt fe + 1 := by
  unfold cnt
  have e : (fun m => (trn fe j).getD m false) = setB (fun m => fe.getD m false) j true := by
    funext m
    unfold trn setB
    rw [getD_set _ _ _ _ hj, h]
    rfl
  have hl : (trn fe j).length = fe.length := List.length_set
  rw [e, hl]
  exact cntN_yes (fun m => fe.getD m false) hj h
theorem trn_getD {fe : List Bool} {j : Nat} (hj : j < fe.length) (s : Nat) : (trn fe j).getD s false = if s = j then !fe.getD j false else fe.getD s false := by
  unfold trn
  rw [getD_set _ _ _ _ hj]
theorem take_there {fe : List Bool} (h : 1 ≤ cnt fe) : ∃ j, nxt fe 0 = some j ∧ j < fe.length ∧ fe.getD j false = true := by
  cases hn : nxt fe 0 with
  | none =>
    have h1 := nxt_none.1 hn
    have : cnt fe = 0 := cntN_false fun j _ => h1 j (Nat.zero_le _)
    omega
  | some j => exact ⟨j, rfl, (nxt_some.1 hn).2.1, (nxt_some.1 hn).2.2.1⟩
theorem Dk.wr_rd (D : Dk) (j s : Nat) (bs : List Int) : (D.wr j bs).rd (s : Int) = if s = j then bs else D.rd (s : Int) := by
  unfold Dk.rd Dk.wr
  by_cases e : s = j
  · subst e; simp
  · have : ¬ (s : Int) = (j : Int) := by omega
    simp [e, this]
theorem Dk.wr_cache (D : Dk) (j s : Nat) (bs : List Int) (h : s ≠ j) : (D.wr j bs).cache (s : Int) = D.cache (s : Int) := by
  unfold Dk.wr
  have : ¬ (s : Int) = (j : Int) := by omega
  simp [this]
theorem set_at {α : Type} {tb : List α} {i k : Nat} {v : α} (hi : i < tb.length) : (tb.set i v)[k]? = if k = i then some v else tb[k]? := by
  rw [List.getElem?_set]
  by_cases e : i = k
  · subst e; simp [hi]
  · simp [e, Ne.symm e]

section
variable {D D' : Dk} {ep i j k s : Nat} {pg tb old lf : List Nat} {fe : List Bool} {fr tc : Nat → Bool} {bs : List Int}
theorem Inv.row (h : Inv D ep pg tb old fe fr lf tc) : 32 ≤ D.sz / 2 := by have := h.sz; omega
theorem Inv.tch (h : Inv D ep pg tb old fe fr lf tc) (hk : k < pg.length) (hr : cntN (setB tc k true) 64 ≤ cnt fe) : Inv D ep pg tb old fe fr lf (setB tc k true) :=
  ⟨h.sz, h.lens, h.rO, h.rP, h.jO, h.jP, h.dis, h.acct, h.frr, h.cur, h.jT, h.lf, fun i hi => by unfold setB; by_cases e : i / (D.sz / 2) = k <;> simp only [e, if_true, if_false]; exact h.tcd i hi, fun m hm => by
    unfold setB at hm
    split at hm
    · omega
    · exact h.tc6 m hm, hr, h.cln, h.dur, h.byt, h.epo, h.byd⟩
theorem Inv.fr0 (h : Inv D ep pg tb old fe fr lf tc) (hs : s < 2) : fr s = false := by
  cases e : fr s with
  | false => rfl
  | true => have := (h.frr s e).1; omega
/-- An entry turns from one that is none of a sector's to another such. -/
theorem Inv.zero (h : Inv D ep pg tb old fe fr lf tc) {v : Nat} (hi : tb[i]? = some s) (hs : s < 2) (hv : v < 2) (ht : tc (i / (D.sz / 2)) = true) : Inv D ep pg (tb.set i v) old fe fr lf tc := by
  have hil : i < tb.length := (List.getElem?_eq_some_iff.1 hi).1
  refine ⟨h.sz, by simpa using h.lens, h.rO, h.rP, h.jO, h.jP, h.dis, h.acct, fun m hm => ?_, fun m q hm hq => ?_, fun a b q ha hb hq => ?_, ⟨h.lf.1, fun m => ?_⟩, fun m hm => ?_, h.tc6, h.room, h.cln, h.dur, h.byt, h.epo, h.byd⟩
  · obtain ⟨h1, h2, h3, h4, q, h5⟩ := h.frr m hm
    refine ⟨h1, h2, h3, h4, q, ?_⟩
    rw [set_at hil, if_neg]
    · exact h5
    · rintro rfl
      rw [hi] at h5
      injection h5 with h5
      omega
  · rw [set_at hil] at hm
    split at hm
    · injection hm with hm; omega
    · exact h.cur m q hm hq
  · rw [set_at hil] at ha hb
    split at ha
    · injection ha with ha; omega
    · split at hb
      · injection hb with hb; omega
      · exact h.jT a b q ha hb hq
  · rw [h.lf.2]
    refine and_congr_right fun hm => exists_congr fun a => and_congr_right fun ha => ?_
    rw [set_at hil]
    by_cases e : a = i
    · subst e
      rw [if_pos rfl, hi]
      simp only [ne_eq, Option.some.injEq]
      omega
    · rw [if_neg e]
  · by_cases e : m = i
    · subst e; exact ht
    · rw [set_at hil, if_neg e] at hm
      exact h.tcd m hm
/-- A sector that is free is none that counts. -/
theorem Inv.free (h : Inv D ep pg tb old fe fr lf tc) (hj : fe.getD j false = true) : 2 ≤ j ∧ j < D.n ∧ (∀ k : Nat, pg[k]? ≠ some j) ∧ (∀ i : Nat, old[i]? ≠ some j) ∧ fr j = false ∧ ∀ i : Nat, tb[i]? ≠ some j := by
  have hjn : j < D.n := by
    by_cases e : j < fe.length
    · have := h.lens.1; omega
    · rw [List.getD_eq_getElem?_getD, List.getElem?_eq_none (by omega)] at hj; simp at hj
  have hn : ¬ (j < 2 ∨ (∃ k : Nat, pg[k]? = some j) ∨ (∃ i : Nat, old[i]? = some j) ∨ fr j = true) := fun e => by
    have := (h.acct j hjn).2 e
    rw [hj] at this
    cases this
  simp only [not_or, not_exists] at hn
  have hf : fr j = false := by cases e : fr j with | false => rfl | true => exact absurd e hn.2.2.2
  refine ⟨by omega, hjn, hn.2.1, hn.2.2.1, hf, fun i hi => ?_⟩
  rcases h.cur i j hi (by omega) with e | e
  · rw [hf] at e; cases e
  · exact hn.2.2.1 i e
/-- Only a sector that does not count yet is written. -/
theorem Inv.write (h : Inv D ep pg tb old fe fr lf tc) (hj : j < D.n ∧ 2 ≤ j ∧ (∀ k : Nat, pg[k]? ≠ some j) ∧ ∀ i : Nat, old[i]? ≠ some j) (hb : ∀ x ∈ bs, 0 ≤ x ∧ x ≤ 255) : Inv (D.wr j bs) ep pg tb old fe fr lf tc := by
  refine ⟨h.sz, h.lens, h.rO, h.rP, h.jO, h.jP, h.dis, h.acct, h.frr, h.cur, h.jT, h.lf, h.tcd, h.tc6, h.room, fun s hs hk => ?_, ?_, fun s hs => ?_, h.epo, h.byd⟩
  · rw [Dk.wr_cache]
    · exact h.cln s hs hk
    · rintro rfl
      rcases hk with e | ⟨k, e⟩ | ⟨i, e⟩
      · omega
      · exact hj.2.2.1 k e
      · exact hj.2.2.2 i e
  · refine h.dur.congr rfl fun s hs => ?_
    rw [Dk.wr_rd, if_neg]
    rintro rfl
    rcases hs with e | ⟨-, k, e⟩
    · omega
    · exact hj.2.2.1 k e
  · rw [Dk.wr_rd]
    split
    · exact hb
    · exact h.byt s hs
/-- A page gets a sector that was free. -/
theorem Inv.fill (h : Inv D ep pg tb old fe fr lf tc) (hi : tb[i]? = some s) (hf : fr s = false) (hj : fe.getD j false = true) (ht : tc (i / (D.sz / 2)) = true) (hr : cntN tc 64 + 1 ≤ cnt fe) :
    Inv D ep pg (tb.set i j) old (trn fe j) (setB fr j true) (if s ≤ 1 then lf else lf ++ [s]) tc := by
  have hil : i < tb.length := (List.getElem?_eq_some_iff.1 hi).1
  obtain ⟨j1, j2, j3, j4, j5, j6⟩ := h.free hj
  have hjl : j < fe.length := by rw [h.lens.1]; exact j2
  refine ⟨h.sz, by simpa [trn] using h.lens, h.rO, h.rP, h.jO, h.jP, h.dis, fun m hm => ?_, fun m hm => ?_, fun m q hm hq => ?_, fun a b q ha hb hq => ?_, ?_, fun m hm => ?_, h.tc6, by have := cnt_trn_no hj; omega, h.cln, h.dur, h.byt, h.epo, h.byd⟩
  · rw [trn_getD hjl]
    unfold setB
    by_cases e : m = j
    · subst e; rw [if_pos rfl, hj]; simp
    · simp only [e, if_false]
      exact h.acct m hm
  · unfold setB at hm
    by_cases e : m = j
    · subst e
      exact ⟨j1, j2, j3, j4, i, by rw [set_at hil, if_pos rfl]⟩
    · simp only [e, if_false] at hm
      obtain ⟨h1, h2, h3, h4, q, h5⟩ := h.frr m hm
      refine ⟨h1, h2, h3, h4, q, ?_⟩
      rw [set_at hil, if_neg]
      · exact h5
      · rintro rfl
        rw [hi] at h5
        injection h5 with h5
        rw [h5] at hf
        rw [hf] at hm
        cases hm
  · rw [set_at hil] at hm
    unfold setB
    split at hm
    · injection hm with hm; subst hm; simp
    · rcases h.cur m q hm hq with e | e
      · left; by_cases e2 : q = j <;> simp only [e2, if_true, if_false]; exact e
      · exact .inr e
  · rw [set_at hil] at ha hb
    split at ha
    · split at hb
      · omega
      · injection ha with ha; subst ha; exact absurd hb (j6 b)
    · split at hb
      · injection hb with hb; subst hb; exact absurd ha (j6 a)
      · exact h.jT a b q ha hb hq
  · have key : ∀ a m : Nat, old[a]? = some m → ((tb.set i j)[a]? ≠ some m ↔ tb[a]? ≠ some m ∨ a = i) := fun a m ha => by
      rw [set_at hil]
      by_cases e : a = i
      · subst e
        rw [if_pos rfl]
        have : j ≠ m := fun e => j4 a (e ▸ ha)
        simp [this]
      · rw [if_neg e]; simp [e]
    by_cases hs : s ≤ 1
    · rw [if_pos hs]
      refine ⟨h.lf.1, fun m => ?_⟩
      rw [h.lf.2]
      refine and_congr_right fun hm => exists_congr fun a => and_congr_right fun ha => ?_
      rw [key a m ha]
      refine ⟨.inl, fun e => e.elim id ?_⟩
      rintro rfl
      rw [hi]
      simp only [ne_eq, Option.some.injEq]
      omega
    · rw [if_neg hs]
      have hos : old[i]? = some s := (h.cur i s hi (by omega)).resolve_left (by rw [hf]; simp)
      have hsl : s ∉ lf := fun e => by
        obtain ⟨-, a, ha, hb⟩ := (h.lf.2 s).1 e
        obtain rfl := h.jO a i s ha hos (by omega)
        exact hb hi
      refine ⟨List.nodup_append.2 ⟨h.lf.1, by simp, fun a ha b hb => ?_⟩, fun m => ?_⟩
      · simp only [List.mem_singleton] at hb
        subst hb
        rintro rfl
        exact hsl ha
      · rw [List.mem_append, h.lf.2, List.mem_singleton]
        constructor
        · rintro (⟨h1, a, ha, hb⟩ | rfl)
          · exact ⟨h1, a, ha, (key a m ha).2 (.inl hb)⟩
          · exact ⟨by omega, i, hos, (key i m hos).2 (.inr rfl)⟩
        · rintro ⟨h1, a, ha, hb⟩
          rcases (key a m ha).1 hb with e | rfl
          · exact .inl ⟨h1, a, ha, e⟩
          · rw [hos] at ha; injection ha with ha; exact .inr ha.symm
  · by_cases e : m = i
    · subst e; exact ht
    · rw [set_at hil, if_neg e] at hm
      exact h.tcd m hm
/-- A fresh page is used no more. -/
theorem Inv.give (h : Inv D ep pg tb old fe fr lf tc) (hi : tb[i]? = some s) (hf : fr s = true) (ht : tc (i / (D.sz / 2)) = true) : Inv D ep pg (tb.set i 0) old (trn fe s) (setB fr s false) lf tc := by
  have hil : i < tb.length := (List.getElem?_eq_some_iff.1 hi).1
  obtain ⟨s1, s2, s3, s4, -⟩ := h.frr s hf
  have hsl : s < fe.length := by rw [h.lens.1]; exact s2
  have hfe : fe.getD s false = false := (h.acct s s2).2 (.inr (.inr (.inr hf)))
  refine ⟨h.sz, by simpa [trn] using h.lens, h.rO, h.rP, h.jO, h.jP, h.dis, fun m hm => ?_, fun m hm => ?_, fun m q hm hq => ?_, fun a b q ha hb hq => ?_, ⟨h.lf.1, fun m => ?_⟩, fun m hm => ?_, h.tc6, by have := cnt_trn_yes hsl hfe; have := h.room; omega, h.cln, h.dur, h.byt, h.epo, h.byd⟩
  · rw [trn_getD hsl]
    unfold setB
    by_cases e : m = s
    · subst e
      simp only [if_true, hfe, Bool.not_false, Bool.true_eq_false, false_iff, not_or, not_exists, Bool.false_eq_true, not_false_eq_true, and_true]
      exact ⟨by omega, s3, s4⟩
    · simp only [e, if_false]
      exact h.acct m hm
  · unfold setB at hm
    by_cases e : m = s
    · simp [e] at hm
    · simp only [e, if_false] at hm
      obtain ⟨h1, h2, h3, h4, q, h5⟩ := h.frr m hm
      refine ⟨h1, h2, h3, h4, q, ?_⟩
      rw [set_at hil, if_neg]
      · exact h5
      · rintro rfl
        rw [hi] at h5
        injection h5 with h5
        exact e h5.symm
  · rw [set_at hil] at hm
    unfold setB
    split at hm
    · injection hm with hm; omega
    · rename_i hmi
      rcases h.cur m q hm hq with e | e
      · left
        rw [if_neg]
        · exact e
        · rintro rfl
          exact hmi (h.jT m i q hm hi hq)
      · exact .inr e
  · rw [set_at hil] at ha hb
    split at ha
    · injection ha with ha; omega
    · split at hb
      · injection hb with hb; omega
      · exact h.jT a b q ha hb hq
  · rw [h.lf.2]
    refine and_congr_right fun hm => exists_congr fun a => and_congr_right fun ha => ?_
    rw [set_at hil]
    by_cases e : a = i
    · subst e
      rw [if_pos rfl, hi]
      simp only [ne_eq, Option.some.injEq]
      have : s ≠ m := fun e => s4 a (e ▸ ha)
      omega
    · rw [if_neg e]
  · by_cases e : m = i
    · subst e; exact ht
    · rw [set_at hil, if_neg e] at hm
      exact h.tcd m hm
/-- A page that the root leads to is used no more. -/
theorem Inv.left (h : Inv D ep pg tb old fe fr lf tc) (hi : tb[i]? = some s) (hs : 2 ≤ s) (hf : fr s = false) (ht : tc (i / (D.sz / 2)) = true) : Inv D ep pg (tb.set i 0) old fe fr (lf ++ [s]) tc := by
  have hil : i < tb.length := (List.getElem?_eq_some_iff.1 hi).1
  have hos : old[i]? = some s := (h.cur i s hi hs).resolve_left (by rw [hf]; simp)
  have hsl : s ∉ lf := fun e => by
    obtain ⟨-, a, ha, hb⟩ := (h.lf.2 s).1 e
    obtain rfl := h.jO a i s ha hos (by omega)
    exact hb hi
  refine ⟨h.sz, by simpa using h.lens, h.rO, h.rP, h.jO, h.jP, h.dis, h.acct, fun m hm => ?_, fun m q hm hq => ?_, fun a b q ha hb hq => ?_, ⟨List.nodup_append.2 ⟨h.lf.1, by simp, fun a ha b hb => ?_⟩, fun m => ?_⟩, fun m hm => ?_, h.tc6, h.room, h.cln, h.dur, h.byt, h.epo, h.byd⟩
  · obtain ⟨h1, h2, h3, h4, q, h5⟩ := h.frr m hm
    refine ⟨h1, h2, h3, h4, q, ?_⟩
    rw [set_at hil, if_neg]
    · exact h5
    · rintro rfl
      rw [hi] at h5
      injection h5 with h5
      rw [h5] at hf
      rw [hf] at hm
      cases hm
  · rw [set_at hil] at hm
    split at hm
    · injection hm with hm; omega
    · exact h.cur m q hm hq
  · rw [set_at hil] at ha hb
    split at ha
    · injection ha with ha; omega
    · split at hb
      · injection hb with hb; omega
      · exact h.jT a b q ha hb hq
  · simp only [List.mem_singleton] at hb
    subst hb
    rintro rfl
    exact hsl ha
  · rw [List.mem_append, h.lf.2, List.mem_singleton]
    constructor
    · rintro (⟨h1, a, ha, hb⟩ | rfl)
      · refine ⟨h1, a, ha, ?_⟩
        rw [set_at hil]
        split
        · simp only [ne_eq, Option.some.injEq]; omega
        · exact hb
      · refine ⟨hs, i, hos, ?_⟩
        rw [set_at hil, if_pos rfl]
        simp only [ne_eq, Option.some.injEq]; omega
    · rintro ⟨h1, a, ha, hb⟩
      rw [set_at hil] at hb
      by_cases e : a = i
      · subst e; rw [hos] at ha; injection ha with ha; exact .inr ha.symm
      · rw [if_neg e] at hb; exact .inl ⟨h1, a, ha, hb⟩
  · by_cases e : m = i
    · subst e; exact ht
    · rw [set_at hil, if_neg e] at hm
      exact h.tcd m hm
/-- How many sectors are left. -/
theorem Inv.lfle (h : Inv D ep pg tb old fe fr lf tc) : lf.length ≤ 4096 := by
  have := List.Nodup.length_le_of_subset h.lf.1 (l₂ := List.range D.n) fun s hs => by
    obtain ⟨-, i, hi, -⟩ := (h.lf.2 s).1 hs
    exact List.mem_range.2 (h.rO i s hi)
  rw [List.length_range] at this
  have := h.sz
  omega
theorem Inv.part (h : Inv D ep pg tb old fe fr lf tc) (hi : i < tb.length) : i / (D.sz / 2) < pg.length := by
  have h1 := h.lens
  have h2 := h.row
  rw [Nat.div_lt_iff_lt_mul (by omega), h1.2.1]
  rw [h1.2.2.1] at hi
  unfold capN at hi
  split at hi <;> omega
theorem Inv.pg64 (h : Inv D ep pg tb old fe fr lf tc) : pg.length ≤ 64 := by
  rw [h.lens.2.1]
  have := tabs_le (D.sz / 2) (D.n - 2) D.sz 64 0
  unfold tabN
  omega
theorem Inv.tb4 (h : Inv D ep pg tb old fe fr lf tc) : tb.length ≤ 4096 ∧ tb.length ≤ pg.length * (D.sz / 2) := by
  have h1 := h.lens
  have h2 := h.sz
  rw [h1.2.2.1, h1.2.1]
  unfold capN
  split <;> omega
end

end Go.Proofs.YtjkkoogfaibhiaaGreatDoor

/- The pager: its pages, as a list; how many sectors are free (plain). -/
namespace Go.Proofs.YtjkkoogfaibhiaaGreatDoor
open Go.RowKit Go.Maps

def Gp.old (X : Gp) : List Nat := match X.op with | none => X.table | some o => o.was
def Gp.fr (X : Gp) : Nat → Bool := match X.op with | none => fun _ => false | some o => o.fresh
def Gp.lf (X : Gp) : List Nat := match X.op with | none => [] | some o => o.left
def Gp.tc (X : Gp) : Nat → Bool := match X.op with | none => fun _ => false | some o => o.touched
/-- A pager all right, whose disk is up. -/
structure Gp.Ok (X : Gp) : Prop where
  inv : Inv X.D X.epoch X.pages X.table X.old X.free X.fr X.lf X.tc
  row : X.row = X.D.sz / 2
  up : X.down = false ∧ X.D.down = false ∧ X.D.armed = false

/-- A pager, as its pages are. -/
structure Rp where
  n : Nat
  sz : Nat
  now : List Pk
  was : Option (List Pk)
  touched : Nat → Bool
  epoch : Nat
  d : Nat
def Gp.view (X : Gp) : Rp := { n := X.D.n, sz := X.D.sz, now := X.table.map (pk X.D X.fr), was := X.op.map fun o => o.was.map (pk X.D fun _ => false), touched := X.tc, epoch := X.epoch, d := X.D.id }
def Rp.base (x : Rp) : List Pk := x.was.getD x.now
/-- Has a table page used pages? -/
def partUsed (row : Nat) (l : List Pk) (k : Nat) : Bool := (List.range row).any fun i => (l.getD (k * row + i) .no).used
def tabsUsed (n sz : Nat) (l : List Pk) : Nat := (List.range (tabN n sz)).countP (partUsed (sz / 2) l)
/-- How many sectors are free, and how many of them are not kept back. -/
def Rp.free (x : Rp) : Int := (x.n : Int) - 2 - tabsUsed x.n x.sz x.base - x.base.countP Pk.isOld - x.now.countP Pk.isNew
def Rp.room (x : Rp) : Int := x.free - cntN x.touched 64
def Rp.need (x : Rp) (k m : Nat) : Nat := m + if x.touched k then 0 else 1
def Rp.row (x : Rp) : Nat := x.sz / 2
/-- A page becomes something. -/
def Rp.put (x : Rp) (i : Nat) (c : Pk) : Rp := { x with now := x.now.set i c, touched := setB x.touched (i / x.row) true }
def Rp.begun (x : Rp) : Rp := { x with was := some x.now, touched := fun _ => false }

theorem cntN_countP (f : Nat → Bool) : ∀ n, cntN f n = (List.range n).countP f
  | 0 => rfl
  | n + 1 => by
    rw [cntN_succ, List.range_succ, List.countP_append, cntN_countP f n]
    simp [List.countP_cons]
theorem nodup_filter {l : List Nat} {p : Nat → Bool} (h : ∀ i j s : Nat, l[i]? = some s → l[j]? = some s → p s = true → i = j) : (l.filter p).Nodup := by
  induction l with
  | nil => simp
  | cons a t ih =>
    have ht : (t.filter p).Nodup := ih fun i j s hi hj hp => by have := h (i + 1) (j + 1) s (by simpa using hi) (by simpa using hj) hp; omega
    rw [List.filter_cons]
    split
    · rename_i hp
      refine List.nodup_cons.2 ⟨fun hm => ?_, ht⟩
      obtain ⟨hm, -⟩ := List.mem_filter.1 hm
      obtain ⟨k, hk, e⟩ := List.mem_iff_getElem.1 hm
      have := h 0 (k + 1) a (by simp) (by simp [List.getElem?_eq_getElem hk, e]) hp
      omega
    · exact ht
theorem countP_range (l : List Nat) (p : Nat → Bool) : l.countP p = (List.range l.length).countP fun k => p (l.getD k 0) := by
  induction l with
  | nil => rfl
  | cons a t ih =>
    rw [List.length_cons, List.range_succ_eq_map, List.countP_cons, List.countP_cons, List.countP_map, ih]
    rfl
theorem pk_used (D : Dk) (fr : Nat → Bool) (s : Nat) : (pk D fr s).used = (s != 0) := by
  unfold pk
  by_cases h0 : s = 0
  · simp [h0, Pk.used]
  · by_cases h1 : s = 1
    · simp [h1, Pk.used]
    · rw [if_neg h0, if_neg h1]
      cases fr s <;> simp [Pk.used, h0]
theorem pk_isOld (D : Dk) (s : Nat) : (pk D (fun _ => false) s).isOld = decide (2 ≤ s) := by
  unfold pk
  by_cases h0 : s = 0
  · simp [h0, Pk.isOld]
  · by_cases h1 : s = 1
    · simp [h1, Pk.isOld]
    · rw [if_neg h0, if_neg h1]; simp [Pk.isOld]; omega
theorem pk_isNew (D : Dk) (fr : Nat → Bool) (s : Nat) (h : fr s = true → 2 ≤ s) : (pk D fr s).isNew = fr s := by
  unfold pk
  cases hf : fr s with
  | true => have := h hf; rw [if_neg (by omega), if_neg (by omega)]; simp [Pk.isNew]
  | false => split <;> (try split) <;> simp [Pk.isNew]

section
variable {D : Dk} {ep : Nat} {pg tb old lf : List Nat} {fe : List Bool} {fr tc : Nat → Bool}
/-- All sectors are told apart. -/
theorem Inv.count (h : Inv D ep pg tb old fe fr lf tc) : cnt fe + 2 + pg.countP (fun s => s != 0) + old.countP (fun s => decide (2 ≤ s)) + tb.countP fr = D.n := by
  have hn := h.sz.1
  have h1 : ((pg.filter fun s => s != 0) ++ ((old.filter fun s => decide (2 ≤ s)) ++ tb.filter fr)).Perm ((List.range D.n).filter fun s => !fe.getD s false && decide (2 ≤ s)) := by
    refine (List.perm_ext_iff_of_nodup ?_ (List.nodup_range.filter _)).2 fun s => ?_
    · refine List.nodup_append.2 ⟨nodup_filter fun i j s hi hj hp => h.jP i j s hi hj (by simpa using hp), List.nodup_append.2 ⟨nodup_filter fun i j s hi hj hp => h.jO i j s hi hj (by simpa using hp), nodup_filter fun i j s hi hj hp => h.jT i j s hi hj (h.frr s hp).1, ?_⟩, ?_⟩
      · intro a ha b hb e
        subst e
        obtain ⟨ha, -⟩ := List.mem_filter.1 ha
        obtain ⟨-, hb⟩ := List.mem_filter.1 hb
        obtain ⟨i, hi⟩ := List.mem_iff_getElem?.1 ha
        exact (h.frr a hb).2.2.2.1 i hi
      · intro a ha b hb e
        subst e
        obtain ⟨ha, h0⟩ := List.mem_filter.1 ha
        obtain ⟨k, hk⟩ := List.mem_iff_getElem?.1 ha
        rcases List.mem_append.1 hb with hb | hb
        · obtain ⟨hb, h2⟩ := List.mem_filter.1 hb
          obtain ⟨i, hi⟩ := List.mem_iff_getElem?.1 hb
          have := h.dis k i a hk hi
          simp at h2
          omega
        · obtain ⟨-, hb⟩ := List.mem_filter.1 hb
          exact (h.frr a hb).2.2.1 k hk
    · simp only [List.mem_append, List.mem_filter, List.mem_range, Bool.and_eq_true, Bool.not_eq_true', decide_eq_true_eq, bne_iff_ne, ne_eq]
      constructor
      · rintro (⟨hm, h0⟩ | ⟨hm, h2⟩ | ⟨hm, hf⟩)
        · obtain ⟨k, hk⟩ := List.mem_iff_getElem?.1 hm
          obtain ⟨e1, e2⟩ := h.rP k s hk h0
          exact ⟨e2, (h.acct s e2).2 (.inr (.inl ⟨k, hk⟩)), e1⟩
        · obtain ⟨k, hk⟩ := List.mem_iff_getElem?.1 hm
          have e2 := h.rO k s hk
          exact ⟨e2, (h.acct s e2).2 (.inr (.inr (.inl ⟨k, hk⟩))), h2⟩
        · obtain ⟨e1, e2, -⟩ := h.frr s hf
          exact ⟨e2, (h.acct s e2).2 (.inr (.inr (.inr hf))), e1⟩
      · rintro ⟨e1, e2, e3⟩
        rcases (h.acct s e1).1 e2 with e | ⟨k, hk⟩ | ⟨k, hk⟩ | e
        · omega
        · exact .inl ⟨List.mem_iff_getElem?.2 ⟨k, hk⟩, by omega⟩
        · exact .inr (.inl ⟨List.mem_iff_getElem?.2 ⟨k, hk⟩, e3⟩)
        · obtain ⟨i, hi⟩ := (h.frr s e).2.2.2.2
          exact .inr (.inr ⟨List.mem_iff_getElem?.2 ⟨i, hi⟩, e⟩)
  have h2 := h1.length_eq
  simp only [List.length_append, ← List.countP_eq_length_filter] at h2
  have h3 : cnt fe = (List.range D.n).countP fun s => fe.getD s false := by unfold cnt; rw [h.lens.1]; exact cntN_countP _ _
  have h4 := List.length_eq_countP_add_countP (fun s => fe.getD s false) (l := List.range D.n)
  have h5 : (List.range D.n).countP (fun a => decide (¬ fe.getD a false = true)) = 2 + (List.range D.n).countP (fun s => !fe.getD s false && decide (2 ≤ s)) := by
    obtain ⟨m, hm⟩ : ∃ m, D.n = 2 + m := ⟨D.n - 2, by omega⟩
    have e0 : fe.getD 0 false = false := (h.acct 0 (by omega)).2 (.inl (by omega))
    have e1 : fe.getD 1 false = false := (h.acct 1 (by omega)).2 (.inl (by omega))
    rw [hm, List.range_add, List.countP_append, List.countP_append, show List.range 2 = [0, 1] from rfl]
    simp only [List.countP_cons, List.countP_nil, e0, e1, List.countP_map]
    have : (List.range m).countP ((fun a => decide (¬ fe.getD a false = true)) ∘ fun x => 2 + x) = (List.range m).countP ((fun s => !fe.getD s false && decide (2 ≤ s)) ∘ fun x => 2 + x) := List.countP_congr fun k _ => by
      simp only [Function.comp]
      cases fe.getD (2 + k) false <;> simp
    rw [this]
    simp
  rw [List.length_range] at h4
  omega
end
theorem getD_map_pk (D : Dk) (fr : Nat → Bool) (l : List Nat) (i : Nat) : (l.map (pk D fr)).getD i .no = pk D fr (l.getD i 0) := by
  rw [List.getD_eq_getElem?_getD, List.getD_eq_getElem?_getD, List.getElem?_map]
  cases l[i]? <;> simp [pk]
theorem Gp.base_eq (X : Gp) : X.view.base = X.old.map (pk X.D fun _ => false) := by
  unfold Rp.base Gp.view Gp.old
  cases h : X.op with
  | none => simp [Gp.fr, h]
  | some o => simp
theorem Gp.Ok.free {X : Gp} (h : X.Ok) : (cnt X.free : Int) = X.view.free := by
  have hc := h.inv.count
  have h1 : X.pages.countP (fun s => s != 0) = tabsUsed X.D.n X.D.sz (X.old.map (pk X.D fun _ => false)) := by
    unfold tabsUsed
    rw [countP_range, h.inv.lens.2.1]
    refine List.countP_congr fun k hk => ?_
    have hk' : k < X.pages.length := by rw [h.inv.lens.2.1]; exact List.mem_range.1 hk
    have hp : X.pages[k]? = some (X.pages.getD k 0) := by rw [List.getD_eq_getElem?_getD, List.getElem?_eq_getElem hk']; rfl
    have hpu : partUsed (X.D.sz / 2) (X.old.map (pk X.D fun _ => false)) k = true ↔ ∃ i, i < X.D.sz / 2 ∧ X.old.getD (k * (X.D.sz / 2) + i) 0 ≠ 0 := by
      unfold partUsed
      simp only [List.any_eq_true, List.mem_range, getD_map_pk, pk_used, bne_iff_ne]
    rw [hpu]
    simp only [bne_iff_ne]
    constructor
    · exact fun e => h.inv.dur.tab1 k _ hp e
    · rintro ⟨i, hi, e⟩ e0
      rw [e0] at hp
      exact e (h.inv.dur.tab0 k hp i hi)
  have h2 : X.view.base.countP Pk.isOld = X.old.countP fun s => decide (2 ≤ s) := by
    rw [Gp.base_eq, List.countP_map]
    refine List.countP_congr fun s _ => ?_
    simp only [Function.comp, pk_isOld]
  have h3 : X.view.now.countP Pk.isNew = X.table.countP X.fr := by
    show (X.table.map (pk X.D X.fr)).countP Pk.isNew = _
    rw [List.countP_map]
    refine List.countP_congr fun s _ => ?_
    simp only [Function.comp, pk_isNew X.D X.fr s fun e => (h.inv.frr s e).1]
  have h4 : X.view.n = X.D.n ∧ X.view.sz = X.D.sz := ⟨rfl, rfl⟩
  unfold Rp.free
  rw [h2, h3, Gp.base_eq, h4.1, h4.2, ← h1]
  omega
theorem Gp.Ok.room {X : Gp} (h : X.Ok) : X.room = X.view.room := by
  have hf := h.free
  unfold Gp.room Rp.room
  rw [← hf]
  show _ = _ - (cntN X.tc 64 : Int)
  cases hx : X.op with
  | none => simp only [Gp.tc, hx]; rw [show cntN (fun _ => false) 64 = 0 from cntN_false fun _ _ => rfl]; simp
  | some o => simp only [Gp.tc, hx]
theorem Gp.Ok.sz {X : Gp} (h : X.Ok) : X.Sz := ⟨h.inv.lens.1, ⟨h.row, h.inv.sz.2.2.1⟩, ⟨by rw [h.row]; exact h.inv.tb4.2, h.inv.tb4.1⟩, h.inv.pg64⟩

end Go.Proofs.YtjkkoogfaibhiaaGreatDoor
