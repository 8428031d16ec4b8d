/- The pool: what a range over All counts. -/
import Derived.Test.YtenmilemdkhijaaDoorPoolN
import Derived.Test.YtenmilemdkhijaaDoorPoolO
namespace Go.Proofs.YtenmilemdkhijaaDoor
open Go.RowKit

theorem cnt_step {y : List Bool} {i j : Nat} (h : nxt y i = some j) : cntN (fun m => y.getD m false) (j + 1) = cntN (fun m => y.getD m false) i + 1 := by
  obtain ⟨h1, -, h3, h4⟩ := nxt_some.1 h
  obtain ⟨d, rfl⟩ := Nat.exists_eq_add_of_le h1
  rw [cntN_succ, cntN_add, cntN_false fun m hm => h4 (i + m) (by omega) (by omega), if_pos h3]
theorem cnt_end {y : List Bool} {i : Nat} (h : nxt y i = none) (hi : i ≤ y.length) : cntN (fun m => y.getD m false) i = cnt y := by
  obtain ⟨d, hd⟩ := Nat.exists_eq_add_of_le hi
  unfold cnt
  rw [hd, cntN_add, cntN_false (f := fun j => y.getD (i + j) false) fun m hm => nxt_none.1 h (i + m) (by omega)]
  rfl

theorem pnext_is (b : Nat) (z : Int) (v : Option Nat) (a : Int) (o : Bool) (x : List Bool) (A : Option Addr) (c : Nat) (w : World) (h : PIn w b x A c) (hl : x.length ≤ 65536) (hz : z ≤ 9223372036854775807) (hT : TabAt 0 tab w)
    (hv : nxt x z.toNat = v) (ha : oI v = a) (ho : oB v = o) :
    Calls Tryd.prog 14 #[.pointer (some ⟨b, 0, none⟩), .int .i64 z] w fun e w' => e = .returned (.tuple #[.int .i64 a, .bool o]) ∧ w = w' := by
  subst hv ha ho
  by_cases hz0 : z < 0
  · rw [show z.toNat = 0 by omega]
    exact pnext_neg b z x A c w h hl hz0 hT
  · obtain ⟨k, rfl⟩ := Int.eq_ofNat_of_zero_le (show 0 ≤ z by omega)
    exact pnext_nat b k x A c w h hl hz hT
theorem xnext_is (f : Int) (v : Option Nat) (a : Int) (x : List Bool) (A : Option Addr) (c : Nat) (w : World) (hs : Sl w 1 A x.length (x.map Value.bool)) (hl : x.length ≤ 65536) (hv : nxt x f.toNat = v) (ha : oJ v = a) :
    Calls Tryd.prog 15 #[.slice A x.length c, .int .i64 f] w fun e w' => e = .returned (.int .i64 a) ∧ w = w' := by
  subst hv ha
  exact xnext_any f x A c w hs hl

/-- Between two rounds. -/
structure NextJ (Wr W : World) (y : List Bool) (ba bm L : Nat) (i many : Nat) (r : Loop) (st : LoopState) (pe : Option Code) : Prop where
  chg : Chg (fun j => j = ba ∨ j = bm ∨ j = L) Wr W
  at_ : Blk W ba 3 #[.int .i64 i]
  blk : Blk W bm 3 #[.int .i64 many]
  rc : Rec W L (Loop.at_ r st pe)
  len : i ≤ y.length
  cnt : cntN (fun m => y.getD m false) i = many
theorem NextJ.kept {Wr W W' : World} {y : List Bool} {ba bm L i many : Nat} {r : Loop} {st st' : LoopState} {pe pe' : Option Code} (h : NextJ Wr W y ba bm L i many r st pe) (hk : Kept L W W') (hR : Rec W' L (Loop.at_ r st' pe')) : NextJ Wr W' y ba bm L i many r st' pe' :=
  ⟨Chg.trans h.chg hk.chg fun i _ e => .inr (.inr e), h.at_.kept hk, h.blk.kept hk, hR, h.len, h.cnt⟩
theorem NextJ.grew {Wr W W' : World} {y : List Bool} {ba bm L i many : Nat} {r : Loop} {st : LoopState} {pe : Option Code} (h : NextJ Wr W y ba bm L i many r st pe) (hg : Grew W W') : NextJ Wr W' y ba bm L i many r st pe :=
  ⟨h.chg.grew hg, h.at_.grew hg, h.blk.grew hg, h.rc.grew hg, h.len, h.cnt⟩

theorem NextJ.next {Wr W X : World} {y : List Bool} {ba bm L i j many : Nat} {r : Loop} {st : LoopState} {pe : Option Code} (h : NextJ Wr W y ba bm L i many r st pe) (hx : nxt y i = some j) (hab : ba ≠ bm) (hLa : L ≠ ba) (hLm : L ≠ bm)
    (hX : ((W.setCell ⟨ba, 0, none⟩ (.int .i64 ((j : Int) + 1))).setCell ⟨bm, 0, none⟩ (.int .i64 ((many : Int) + 1))).drew = X) : NextJ Wr X y ba bm L (j + 1) (many + 1) r st pe := by
  have hc : Chg (fun j => j = ba ∨ j = bm) W X := by
    rw [← hX]
    exact (((Chg.refl (fun j => j = ba ∨ j = bm) W).setCell (p := ⟨ba, 0, none⟩) (fun _ => .inl rfl) _).setCell (p := ⟨bm, 0, none⟩) (fun _ => .inr rfl) _).drew
  refine ⟨Chg.trans h.chg hc fun i _ e => by rcases e with e | e; exact .inl e; exact .inr (.inl e), ?_, ?_, h.rc.chg hc (by rintro (e | e); exact hLa e; exact hLm e), (nxt_some.1 hx).2.1, by rw [cnt_step hx, h.cnt]⟩
  · rw [← hX]
    have h1 := ((h.at_.put 0 (.int .i64 ((j : Int) + 1))).far (p := ⟨bm, 0, none⟩) hab (.int .i64 ((many : Int) + 1))).drew
    simpa using h1
  · rw [← hX]
    have h1 := ((h.blk.far (p := ⟨ba, 0, none⟩) (Ne.symm hab) (.int .i64 ((j : Int) + 1))).put 0 (.int .i64 ((many : Int) + 1))).drew
    simpa using h1

end Go.Proofs.YtenmilemdkhijaaDoor
