/- The pool: its bytes. -/
import Derived.Test.YtenmilemdkhijaaDoorPoolS
import Derived.Test.YtenmilemdkhijaaDoorPoolP
namespace Go.Proofs.YtenmilemdkhijaaDoor
open Go.RowKit
attribute [local go_sem] Oper.semAt_some

def btf (f : Nat → Bool) (k : Nat) : Nat := bitsN (fun j => f (8 * k + j)) 8
def brow (f : Nat → Bool) (m : Nat) : List Value := (List.range m).map fun k => .int .u8 (btf f k)
/-- The free numbers below a number. -/
def low (x : List Bool) (i : Nat) : Nat → Bool := fun j => decide (j < i) && x.getD j false
theorem btf_lt (f : Nat → Bool) (k : Nat) : btf f k < 256 := bitsN_lt _ 8
theorem brow_len (f : Nat → Bool) (m : Nat) : (brow f m).length = m := by simp [brow]
theorem brow_at (f : Nat → Bool) (m k : Nat) : (brow f m)[k]? = if k < m then some (.int .u8 (btf f k)) else none := by
  unfold brow
  rw [List.getElem?_map]
  by_cases h : k < m
  · rw [List.getElem?_range h, if_pos h]; rfl
  · rw [List.getElem?_eq_none (by simp; omega), if_neg h]; rfl
theorem brow_ext {f g : Nat → Bool} (h : ∀ j, f j = g j) (m : Nat) : brow f m = brow g m := by
  rw [show f = g from funext h]
theorem low_zero (x : List Bool) (m : Nat) : brow (low x 0) m = List.replicate m (.int .u8 0) := by
  refine List.ext_getElem? fun k => ?_
  rw [brow_at, List.getElem?_replicate]
  have : btf (low x 0) k = 0 := by
    refine Nat.eq_of_testBit_eq fun t => ?_
    unfold btf
    rw [bitsN_bit]
    simp [low]
  rw [this]
  rfl
theorem bts_eq (x : List Bool) (m : Nat) : bts x m = brow (fun j => x.getD j false) m := by
  unfold bts brow bt btf
  rfl
theorem low_end {x : List Bool} {i : Nat} (h : nxt x i = none) (m : Nat) : brow (low x i) m = bts x m :=
  bts_eq x m ▸ brow_ext (fun j => by
    show (decide (j < i) && x.getD j false) = x.getD j false
    by_cases hj : j < i
    · simp [hj]
    · rw [nxt_none.1 h j (by omega)]; simp) m
theorem low_step {x : List Bool} {i j m : Nat} (h : nxt x i = some j) : (brow (low x i) m).set (j / 8) (.int .u8 ((btf (low x i) (j / 8) ||| 2 ^ (j % 8) : Nat) : Int)) = brow (low x (j + 1)) m := by
  obtain ⟨h1, h2, h3, h4⟩ := nxt_some.1 h
  have key : ∀ q, low x (j + 1) q = (low x i q || decide (q = j)) := fun q => by
    unfold low
    by_cases hq : q = j
    · subst hq; rw [h3]; simp
    · by_cases hi : q < i
      · simp [hi, hq, show q < j + 1 by omega]
      · by_cases hj : q < j
        · rw [h4 q (by omega) hj]; simp [hq]
        · simp [hi, hq, show ¬ q < j + 1 by omega]
  refine List.ext_getElem? fun k => ?_
  rw [List.getElem?_set, brow_at, brow_at, brow_len]
  by_cases hk : j / 8 = k
  · subst hk
    by_cases hm : j / 8 < m
    · rw [if_pos rfl, if_pos hm, if_pos hm]
      refine congrArg (fun n : Nat => some (Value.int .u8 (n : Int))) ?_
      refine Nat.eq_of_testBit_eq fun t => ?_
      unfold btf
      rw [Nat.testBit_or, bitsN_bit, bitsN_bit, Nat.testBit_two_pow, key]
      by_cases ht : t < 8
      · have : (8 * (j / 8) + t = j) ↔ (j % 8 = t) := by omega
        simp [ht, this]
      · have : ¬ j % 8 = t := by omega
        simp [ht, this]
    · rw [if_pos rfl, if_neg hm, if_neg hm]
  · rw [if_neg hk]
    refine congrArg (fun n : Nat => if k < m then some (Value.int .u8 (n : Int)) else none) ?_
    unfold btf
    refine bitsN_ext fun t ht => ?_
    rw [key, show decide (8 * k + t = j) = false from decide_eq_false (by omega), Bool.or_false]

theorem bits_or_u8_nat (a b : Nat) (ha : a < 256) (hb : b < 256) : bits BinOp.or IntKind.u8 (a : Int) (b : Int) = ((a ||| b : Nat) : Int) := by
  have hx : a ||| b < 2 ^ 8 := Nat.or_lt_two_pow (by omega) (by omega)
  have h1 : (BitVec.ofInt 8 (a : Int)).toNat = a := by
    rw [BitVec.ofInt_natCast, BitVec.toNat_ofNat]; exact Nat.mod_eq_of_lt (by omega)
  have h2 : (BitVec.ofInt 8 (b : Int)).toNat = b := by
    rw [BitVec.ofInt_natCast, BitVec.toNat_ofNat]; exact Nat.mod_eq_of_lt (by omega)
  show IntKind.u8.wrap ((BitVec.ofInt 8 (a : Int) ||| BitVec.ofInt 8 (b : Int)).toNat : Int) = _
  rw [BitVec.toNat_or, h1, h2, IntKind.wrap_u8]
  omega
theorem pow_lt8 {s : Nat} (h : s < 8) : 2 ^ s < 256 := by
  have : 2 ^ s < 2 ^ 8 := Nat.pow_lt_pow_right (by decide) h
  simpa using this

/-- A row of bytes. -/
def YRow (w : World) (base g m : Nat) (f : Nat → Bool) : Prop := w.ownsRow base 5 1 (.slice (some ⟨g, 0, none⟩) m m) m (brow f m)
theorem YRow.chg {F : Nat → Prop} {w w' : World} {base g m : Nat} {f : Nat → Bool} (h : YRow w base g m f) (hc : Chg F w w') (hF : ¬ F g) : YRow w' base g m f := own_chg h hc fun g' hg' => by
  have : g = g' := by simpa [Value.ownBlock] using hg'
  exact this ▸ hF
theorem YRow.at {w : World} {base g m : Nat} {f : Nat → Bool} (h : YRow w base g m f) {k : Nat} (hk : k < m) : w.cell? ⟨g, k, none⟩ = some (.int .u8 (btf f k)) ∧ w.frozen? ⟨g, k, none⟩ = false ∧ g < w.heap.size := by
  obtain ⟨cur, -, hgc, hnc, hcm, hcs, htake, -⟩ := own_row h
  have := World.ownsRow.cells (g := g) h rfl k (.int .u8 (btf f k)) (by rw [brow_at, if_pos hk])
  rw [Addr.add_lit] at this
  exact ⟨by simpa using this, (show Blk w g _ cur from hgc).frozen _, (Array.getElem?_eq_some_iff.1 hgc).1⟩

/-- Between two rounds. -/
structure BytJ (Wr W : World) (g L : Nat) (x : List Bool) (i : Nat) (r : Loop) (st : LoopState) (pe : Option Code) : Prop where
  chg : Chg (fun j => j = g ∨ j = L) Wr W
  row : YRow W g g (nb x) (low x i)
  rc : Rec W L (Loop.at_ r st pe)
theorem BytJ.kept {Wr W W' : World} {x : List Bool} {g L i : Nat} {r : Loop} {st st' : LoopState} {pe pe' : Option Code} (h : BytJ Wr W g L x i r st pe) (hk : Kept L W W') (hR : Rec W' L (Loop.at_ r st' pe')) : BytJ Wr W' g L x i r st' pe' :=
  ⟨Chg.trans h.chg hk.chg fun i _ e => .inr e, own_kept h.row hk, hR⟩
theorem BytJ.next {Wr W X : World} {x : List Bool} {g L i j : Nat} {r : Loop} {st : LoopState} {pe : Option Code} (h : BytJ Wr W g L x i r st pe) (hx : nxt x i = some j) (hL : L ≠ g)
    (hX : (W.setCell ⟨g, j / 8, none⟩ (.int .u8 ((btf (low x i) (j / 8) ||| 2 ^ (j % 8) : Nat) : Int))).drew = X) : BytJ Wr X g L x (j + 1) r st pe := by
  have hc : Chg (fun j => j = g) W X := hX ▸ ((Chg.refl (fun j => j = g) W).setCell (p := ⟨g, j / 8, none⟩) (fun _ => rfl) _).drew
  refine ⟨Chg.trans h.chg hc fun i _ e => .inl e, ?_, h.rc.chg hc hL⟩
  have ho := own_word (j := j / 8) h.row (.int .u8 ((btf (low x i) (j / 8) ||| 2 ^ (j % 8) : Nat) : Int))
  rw [low_step hx] at ho
  exact hX ▸ own_chg (F := NoF) ho ((Chg.refl NoF _).drew) (fun _ _ => id)

end Go.Proofs.YtenmilemdkhijaaDoor
