/- BtreeFull returns true, for every input. It has no condition; the table of math/bits that its row lists is tied to the program. -/
import Derived.Test.YtpkkcicaeldodaaGreatDoorMgFull6
import Derived.Test.YtpkkcicaeldodaaGreatDoorRows
import Derived.Test.YtpkkcicaeldodaaGreatDoorTie
import Derived.Test.YtpkkcicaeldodaaGreatDoorCards
import Derived.Lib.LaidTab
import Derived.LaidLaws
import Derived.LaidHandle
import Derived.SevenTiedAt
import Derived.ProofKit
import Derived.OpenShut
import Derived.ShutString
import Derived.ChangeOld
import Derived.Deep.Slices
import Derived.Deep.Fields
set_option linter.unusedSimpArgs false
set_option linter.unusedVariables false
set_option maxRecDepth 100000
set_option maxHeartbeats 6400000
namespace Go.Proofs.YtpkkcicaeldodaaGreatDoor
section
open Go.RowKit Go.Maps
section
variable {w w' : World} {L : Nat → Nat} {p d b ca c M1 s1 M2 s2 : Nat} {X : Gp} {o : Cg} {A : Option Addr} {vp vt vw vl v : Value} {vo : Option Addr} {F : Nat → Prop}
theorem GIn.close (h : GIn w L p X d b A ca vp vt vo) :
  ∃ L', GIn (w.setCell ⟨p, 6, none⟩ (.pointer none)) L' p { X with op := none } d b A ca vp vt none ∧ Rch (fun j => L j ≠ 0) (fun j => L' j ≠ 0) w (w.setCell ⟨p, 6, none⟩ (.pointer none)) := by
 have hc : Chg (fun j => j = p) w (w.setCell ⟨p, 6, none⟩ (.pointer none)) := (Chg.refl (fun j => j = p) w).setCell (p := ⟨p, 6, none⟩) (fun _ => rfl) _;have hcL : Chg (fun j => L j = 1) w (w.setCell ⟨p, 6, none⟩ (.pointer none)) := hc.mono fun i _ e => e ▸ h.lp;obtain ⟨L', hL'⟩ : ∃ L' : Nat → Nat, L' = fun j => if L j ≤ 5 then L j else 0 := ⟨_, rfl⟩
 have lo : ∀ j m, m ≠ 0 → m ≤ 5 → (L' j = m ↔ L j = m) := fun j m h0 h4 => by
  rw [hL'];dsimp only;split <;> omega
 have hset : ∀ m, m ≠ 0 → m ≤ 5 → (fun j => L' j = m) = (fun j => L j = m) := fun m h1 h2 => funext fun j => propext (lo j m h1 h2);have lz : ∀ j, L' j ≠ 0 → L j ≠ 0 := fun j hj e => by rw [hL'] at hj; simp [e] at hj
 refine ⟨L', ⟨?_, (lo p 1 (by omega) (by omega)).2 h.lp, ?_, h.pol.chg hcL fun j hj e => by have := h.lo j hj; omega, fun j hj => (lo j 3 (by omega) (by omega)).2 (h.lo j hj), own_lab h.pgs h.lg hcL (by omega), fun j hj => (lo j 4 (by omega) (by omega)).2 (h.lg j hj),
   own_lab h.tbl h.lb hcL (by omega), fun j hj => (lo j 5 (by omega) (by omega)).2 (h.lb j hj), rfl, fun j hj => Nat.lt_of_lt_of_le (h.lt j (lz j hj)) hc.size, ?_, tab_chg h.tab hcL (by rw [h.l0]; omega)⟩, hc.mono fun i _ e => by rw [e, h.lp]; omega, fun j hj => .inl (lz j hj)⟩
 ·have := h.blk.put 6 (.pointer none)
  simpa using this
 ·rw [hset 2 (by omega) (by omega)]
  exact h.dsk.chg hcL fun j hj e => by omega
 ·rw [hL']; simp [h.l0]
theorem GIn.pgset {l : List Nat} {b0 e : Nat} (h : GIn w L p X d b A ca vp vt vo) (ho : OutR b0 w (fun j => L j ≠ 0) 3 v l.length (nv l)) (h0 : 0 < b0) (he : (e : Int) = (X.epoch : Int) + 1) :
  ∃ L', GIn ((w.setCell ⟨p, 3, none⟩ v).setCell ⟨p, 1, none⟩ (.int .i64 ((X.epoch : Int) + 1))) L' p { X with pages := l, epoch := e } d b A ca v vt vo ∧ Chg (fun j => L j ≠ 0) w ((w.setCell ⟨p, 3, none⟩ v).setCell ⟨p, 1, none⟩ (.int .i64 ((X.epoch : Int) + 1))) ∧ ∀ j, L' j ≠ 0 → L j ≠ 0 ∨ b0 ≤ j := by
 have hc : Chg (fun j => j = p) w ((w.setCell ⟨p, 3, none⟩ v).setCell ⟨p, 1, none⟩ (.int .i64 ((X.epoch : Int) + 1))) := ((Chg.refl (fun j => j = p) w).setCell (p := ⟨p, 3, none⟩) (fun _ => rfl) _).setCell (p := ⟨p, 1, none⟩) (fun _ => rfl) _;have hcL : Chg (fun j => L j = 1) w ((w.setCell ⟨p, 3, none⟩ v).setCell ⟨p, 1, none⟩ (.int .i64 ((X.epoch : Int) + 1))) := hc.mono fun i _ e => e ▸ h.lp
 classical
 obtain ⟨L', hL'⟩ : ∃ L' : Nat → Nat, L' = fun j => if v.ownBlock = some j then 4 else if L j = 4 then 0 else L j := ⟨_, rfl⟩
 have hv0 : ∀ j, v.ownBlock = some j → L j = 0 := fun j hj => by
  by_cases e : L j = 0
  ·exact e
  ·exact absurd e (ho.out j hj)
 have lo : ∀ j m, m ≠ 0 → m ≠ 4 → (L' j = m ↔ L j = m) := fun j m h1 h2 => by
  rw [hL'];dsimp only;split
  ·rename_i e
   have := hv0 j e;omega
  ·split <;> omega
 have hset : ∀ m, m ≠ 0 → m ≠ 4 → (fun j => L' j = m) = (fun j => L j = m) := fun m h1 h2 => funext fun j => propext (lo j m h1 h2);have l4 : ∀ j, v.ownBlock = some j → L' j = 4 := fun j hj => by rw [hL']; dsimp only; rw [if_pos hj]
 have lz : ∀ j, L' j ≠ 0 → L j ≠ 0 ∨ v.ownBlock = some j := fun j hj => by
  by_cases e : v.ownBlock = some j
  ·exact .inr e
  ·left
   intro e2;rw [hL'] at hj;simp [e, e2] at hj
 refine ⟨L', ⟨?_, (lo p 1 (by omega) (by omega)).2 h.lp, ?_, h.pol.chg hcL fun j hj e => by have := h.lo j hj; omega, fun j hj => (lo j 3 (by omega) (by omega)).2 (h.lo j hj), own_base (own_chg ho.own hcL fun j hj e => by have := hv0 j hj; omega) (Nat.zero_le _), l4,
   own_lab h.tbl h.lb hcL (by omega), fun j hj => (lo j 5 (by omega) (by omega)).2 (h.lb j hj), ?_, fun j hj => ?_, ?_, tab_chg h.tab hcL (by rw [h.l0]; omega)⟩, hc.mono fun i _ e => by rw [e, h.lp]; omega, fun j hj => (lz j hj).imp id fun e => (ho.own.lt j e).1⟩
 ·have := (h.blk.put 3 v).put 1 (.int .i64 ((X.epoch : Int) + 1))
  rw [he];simpa using this
 ·rw [hset 2 (by omega) (by omega)]
  exact h.dsk.chg hcL fun j hj e => by omega
 ·have hop := h.opn
  show OpnIn _ L' vo X.op
  cases hx : X.op with
  | none => rw [hx] at hop; exact hop
  | some o =>
   rw [hx] at hop;obtain ⟨c, vw, M1, s1, vl, M2, s2, rfl, hi⟩ := hop
   refine ⟨c, vw, M1, s1, vl, M2, s2, rfl, ⟨hi.blk.chg hcL (by rw [hi.lc]; omega), (lo _ 6 (by omega) (by omega)).2 hi.lc, own_lab hi.was hi.lw hcL (by omega), fun j hj => (lo j 7 (by omega) (by omega)).2 (hi.lw j hj), hi.fr.chg hcL (by rw [hi.lf]; omega), (lo _ 8 (by omega) (by omega)).2 hi.lf,
    own_lab hi.lft hi.ll hcL (by omega), fun j hj => (lo j 9 (by omega) (by omega)).2 (hi.ll j hj), hi.tch.chg hcL (by rw [hi.lt]; omega), (lo _ 10 (by omega) (by omega)).2 hi.lt, hi.n1, hi.n2⟩⟩
 ·rcases lz j hj with e | e
  ·exact Nat.lt_of_lt_of_le (h.lt j e) hc.size
  ·exact Nat.lt_of_lt_of_le (ho.own.lt j e).2 hc.size
 ·rw [hL']
  dsimp only;rw [if_neg (fun e => by have := (ho.own.lt 0 e).1; omega), h.l0];simp
end
end
section
open Go.RowKit Go.Maps
def Gp.done (X : Gp) (o : Cg) : Gp := { X with free := gvn X.free fun s => decide (s ∈ o.left), op := none }
def Gp.comm (X : Gp) (S : TbS) : Gp := { X with D := S.D.rooted (X.epoch + 1) S.pg, epoch := X.epoch + 1, pages := S.pg, free := gvn S.fe fun s => decide (s ∈ S.lf), op := none }
theorem TInv.pg4 {D0 : Dk} {ep : Nat} {pg0 tb old lf0 : List Nat} {fe0 : List Bool} {fr0 tc dn : Nat → Bool} {S : TbS} {rem : Nat} (h0 : Inv D0 ep pg0 tb old fe0 fr0 lf0 tc) (h : TInv D0 pg0 tb old fr0 S dn rem) : ∀ s ∈ S.pg, s < 4096 := fun s hs => by
 have hz := h0.sz;obtain ⟨k, hk⟩ := List.mem_iff_getElem?.1 hs;by_cases e : s = 0
 ·omega
 ·cases hd : dn k with
  | false =>
   rw [h.keep k hd] at hk
   have := (h0.rP k s hk e).2; omega
  | true =>
   rcases h.new k s hd hk with ⟨e1, -⟩ | ⟨e1, e2, -⟩
   ·omega
   ·have := (h.frn s e2).2.1; omega
theorem dnOf_all (ks : List Nat) : dnOf ks ks.length = fun s => decide (s ∈ ks) := by funext s; unfold dnOf; rw [List.take_length]
theorem gcommit_touched (p : Nat) (F : Nat → Prop) (X : Gp) (o : Cg) (w : World) (h : GS w p F X) (hok : X.Ok) (hx : X.op = some o) (hne : 0 < (keysL o.touched 64).length) (hep : X.epoch < 1099511627776) (hfit : fitsN X.pages.length X.D.sz = true) :
  Calls Tryz.prog 26 #[.pointer (some ⟨p, 0, none⟩)] w fun e w' => e = .returned (.int .i64 0) ∧ ∃ S, TInv X.D X.pages X.table o.was o.fresh S o.touched 0 ∧ GTo w w' p F (X.comm S) := by
 have hrd := gready_any p F X w h;rw [hok.rdy hx] at hrd;have htb := gtables_ok p F X o w h hok hx hne;have hv := hok.inv;simp only [Gp.old, Gp.fr, Gp.lf, Gp.tc, hx] at hv;have hup := hok.up;have hpos := tab_pos h.tab;obtain ⟨L, d, b, A, ca, vp, vt, vo, h, hF⟩ := h;have ho := h.opn;rw [hx] at ho;obtain ⟨c, vw, M1, s1, vl, M2, s2, rfl, hi2⟩ := ho;obtain ⟨c0, f0, s0⟩ := h.blk.facts
 obtain ⟨c1, f1, s1'⟩ := hi2.blk.facts;have hlen := hi2.tch.len (t := 103) Tryz.underlying103 3;have hs2 : 0 < s2 := by rw [hi2.n2.1, ← keysL_len]; exact hne
 have hs2' : s2 ≤ 64 := by rw [hi2.n2.1]; exact cntN_le _ _
 have hdn : dnOf (keysL o.touched 64) (keysL o.touched 64).length = o.touched := by
  rw [dnOf_all];funext k
  by_cases e : o.touched k = true
  ·rw [e]; exact decide_eq_true (mem_keysL.2 ⟨hi2.n2.2 k e, e⟩)
  ·rw [decide_eq_false (fun q => e (mem_keysL.1 q).2)]
   exact (by simpa using e : o.touched k = false).symm
 have t1 : decide ((0 : Int) < (s2 : Int)) = true := decide_eq_true (by omega);have H := yH (yA5 hrd htb hv hup (yA3 hdn hx hfit));clear h hi2 hrd htb hv hup hdn hok hx hfit hF hne;go_enter Tryz.func26, Tryz.ntmps26
 go_wp2_with (go_at_call 54; (refine H.out.1.mono ?_); rintro e w1 ⟨rfl, rfl⟩)
 clear c0 f0 s0 c1 f1 s1' hlen;refine H.out.2.1.mono ?_;rintro e w1 ⟨S, F1, v, rfl, hT, ⟨L1, d1, b1, A1, ca1, vp1, vt1, vo1, hG, hF1⟩, hr1, hO⟩;obtain rfl : F1 = fun j => L1 j ≠ 0 := funext fun j => propext (hF1 j);obtain ⟨Av, cv, rfl, -⟩ := own_shape hO.own;obtain ⟨cc, vwc, M1c, s1c, vlc, M2c, s2c, rfl, -⟩ := (show OpnIn w1 L1 vo1 (some { o with fresh := S.fr, left := S.lf }) from hG.opn)
 rw [(yP4 H.out).1] at hT;have hSn := hT.n;have hpl := hT.pgl;obtain ⟨x0, y0, z0⟩ := hG.blk.facts;have hfl := dflush_ok d1 _ S.D w1 hG.dsk (by rw [hSn.2.2.1]; exact H.out.2.2.2.1.2.1) (by rw [hSn.2.2.2]; exact H.out.2.2.2.1.2.2);have H1 := yH (yA5 hG hT hr1 hO (yA3 hfl hSn hpl));clear hG hT hr1 hO hfl hSn hpl hF1;go_wp2_with fail
 refine (yP4 H1.out).1.mono ?_;rintro e w2 ⟨rfl, h2⟩;obtain ⟨L2, hG2, ht2⟩ := H1.out.1.disk h2;have hr2 := (ht2.s (K := fun m => m = 2) H1.out.1.lt rfl (by omega)).rch (by omega) (fun j => Iff.rfl);have hO2 := H1.out.2.2.2.1.rch hr2;clear x0 y0 z0;have x0 := (hG2.blk.drew).cell 0;have x1 := (hG2.blk.drew).cell 1;have H2 := yH (yA3 hG2 hr2 hO2);clear h2 hG2 ht2 hr2 hO2
 have w9 : IntKind.i64.wrap ((X.epoch : Int) + 1) = (X.epoch : Int) + 1 := by have := wrap_nat (n := X.epoch + 1) (by omega); simpa using this
 have x1' : w2.drew.cell? ⟨p, 1, none⟩ = some (.int .i64 X.epoch) := x1;have x0' : w2.drew.cell? ⟨p, 0, none⟩ = some (.pointer (some ⟨d1, 0, none⟩)) := x0;clear x0 x1;go_wp2_with fail
 have hS : w2.drew.cell? ⟨p, 0, none⟩ = some (.pointer (some ⟨d1, 0, none⟩)) ∧ w2.drew.cell? ⟨p, 1, none⟩ = some (.int .i64 X.epoch) := ⟨x0', x1'⟩;refine wp_region_held_drew (S := fun W' => W'.cell? ⟨p, 0, none⟩ = some (.pointer (some ⟨d1, 0, none⟩)) ∧ W'.cell? ⟨p, 1, none⟩ = some (.int .i64 X.epoch)) (by kernel_rfl) hS (fun hHeld => ?_)
 refine Todo.out (is := [0, 1, 2, 3, 4, 5, 6, 7, 8, 9, 10]) ?_
 repeat
  refine tkH (v := ?_) rfl (Or.inl ⟨by rfl, ?_⟩) hHeld ?_;rotate_left
  ·(intro w hSw; (try dsimp only at hSw); go_simp) <;> with_reducible rfl
  (try simp only [Act.put, lZ])
 refine Todo.fin ?_;refine rdH (i := 11) (by kernel_rfl) rfl fun K hK => ?_;go_simp
 have hsv := save_ok d1 (fun q => L2 q = 2) S.D.flushed (X.epoch + 1) S.pg Av cv w2.drew (H2.out.1.dsk.grew ((Chg.refl _ _).drew)) (by rw [← H.out.2.2.2.1.2.1]; exact (yP4 H1.out).2.1.2.2.1) (by rw [← H.out.2.2.2.1.2.2]; exact (yP4 H1.out).2.1.2.2.2) (by have h8 := H.out.2.2.1.sz; have h9 := (yP4 H1.out).2.1.1; show 2 ≤ S.D.n; omega)
  (by have := Sl.of_own (own_base H2.out.2.2.own (Nat.zero_le _)); rw [(yP6 H1.out)]; exact this.grew ((Chg.refl _ _).drew)) (by omega) (by omega) (by rw [(yP6 H1.out)]; exact H.out.2.2.1.pg64) (TInv.pg4 H.out.2.2.1 H1.out.2.1) (by
   show (bodyL (X.epoch + 1) S.pg).length + 14 ≤ S.D.sz;rw [(yP4 H1.out).2.1.2.1];exact body_fits (by rw [(yP6 H1.out)]; exact (yP6 H.out)) (by omega) (TInv.pg4 H.out.2.2.1 H1.out.2.1))
 rw [(yP6 H1.out), show (((X.epoch + 1 : Nat)) : Int) = (X.epoch : Int) + 1 from by simp] at hsv;refine hsv.mono ?_;clear hsv;rintro e w3 ⟨rfl, h3⟩;obtain ⟨L3, hG3, ht3⟩ := (H2.out.1.grew ((Chg.refl _ _).drew)).disk h3;have hr3 := (ht3.s (K := fun m => m = 2) (H2.out.1.grew ((Chg.refl _ _).drew)).lt rfl (by omega)).rch (by omega) (fun j => Iff.rfl)
 have hO3 := (H2.out.2.2.grew ((Chg.refl _ _).drew)).rch hr3;have hH3 : w3.cell? ⟨p, 0, none⟩ = some (.pointer (some ⟨d1, 0, none⟩)) ∧ w3.cell? ⟨p, 1, none⟩ = some (.int .i64 X.epoch) := ⟨hG3.blk.cell 0, hG3.blk.cell 1⟩;refine hK.out _ _ hH3 (fun hHeld => ?_);clear hK K;(try simp only [Act.put, lZ])
 refine rdH (i := 12) (by kernel_rfl) rfl fun K hK => ?_;go_simp;refine hK.out _ _ hH3 (fun hHeld => ?_);clear hK K;(try simp only [Act.put, lZ])
 refine wpAnyH_done (by kernel_rfl) ?_ _;clear hHeld hH3 hS x0' x1';obtain ⟨L4, hG4, hc4, hn4⟩ := hG3.pgset (e := X.epoch + 1) (l := S.pg) (by rw [(yP6 H1.out)]; exact hO3) hpos (by simp; rfl);have hr3F := H1.out.2.2.1.trans (H2.out.2.1.trans ((Rch.grew ((Chg.refl _ _).drew)).trans hr3));obtain ⟨y0, y1, y2⟩ := hG3.blk.facts
 obtain ⟨W4, hW4⟩ : ∃ W, (w3.setCell ⟨p, 3, none⟩ (.slice Av X.pages.length cv)).setCell ⟨p, 1, none⟩ (.int .i64 ((X.epoch : Int) + 1)) = W := ⟨_, rfl⟩;obtain ⟨XC4, hXC⟩ : ∃ Y : Gp, ({ X.comm S with free := S.fe, op := some { o with fresh := S.fr, left := S.lf } } : Gp) = Y := ⟨_, rfl⟩;have hXop : XC4.op = some { o with fresh := S.fr, left := S.lf } := by rw [← hXC]
 obtain ⟨vp4, hvp4⟩ : ∃ v, Value.slice Av X.pages.length cv = v := ⟨_, rfl⟩;have hG4' : GIn W4 L4 p XC4 d1 b1 A1 ca1 vp4 vt1 (some ⟨cc, 0, none⟩) := by rw [← hXC, ← hvp4]; exact hW4 ▸ hG4
 have hG4f : GIn W4 L4 p { XC4 with free := S.fe } d1 b1 A1 ca1 vp4 vt1 (some ⟨cc, 0, none⟩) := by rw [show ({ XC4 with free := S.fe } : Gp) = XC4 from by rw [← hXC]]; exact hG4'
 have HXC := yH hXC;have hr4 : Rch F (fun j => L4 j ≠ 0) w W4 := ⟨Chg.trans hr3F.chg (hW4 ▸ hc4) fun i hi e => (hr3F.new i e).resolve_right (by omega), fun j hj => (hn4 j hj).elim (hr3F.new j) .inr⟩;have HW4 := yH hW4;obtain ⟨cc', vw4, M14, s14, vl4, M24, s24, e4, hi4⟩ := (show OpnIn W4 L4 (some ⟨cc, 0, none⟩) (some { o with fresh := S.fr, left := S.lf }) from hXop ▸ hG4'.opn)
 obtain rfl : cc = cc' := by injection e4 with e; injection e
 obtain ⟨Al, cl, rfl, -⟩ := own_shape hi4.lft;obtain ⟨z0, z1, z2⟩ := hG4'.blk.facts;obtain ⟨z3, z4, z5⟩ := hi4.blk.facts;have hlf4 := TInv.lfle H.out.2.2.1 H1.out.2.1;have hfe4 : S.fe.length ≤ 4096 := by have h8 := H1.out.2.1.fel; have h9 := H.out.2.2.1.sz; omega
 have hlff : ∀ s ∈ S.lf, s < S.fe.length ∧ S.fe.getD s false = false := fun s hs => by
  have h8 := H1.out.2.1.fel;rcases (H1.out.2.1.lf.2 s).1 hs with ⟨-, i, hi, -⟩ | ⟨e, k, -, hk⟩
  ·have := H.out.2.2.1.rO i s hi
   exact ⟨by omega, (H1.out.2.1.acct s this).2 (.inr (.inr (.inl ⟨i, hi⟩)))⟩
  ·have := (H.out.2.2.1.rP k s hk e).2
   exact ⟨by omega, (H1.out.2.1.acct s this).2 (.inr (.inl ⟨k, hk⟩))⟩
 have HL := yH (yA5 hG4f hi4 H1.out.2.1.lf.1 hlff (yA hr4 hfe4));clear h3 hG3 ht3 hr3 hO3 hG4 hc4 hn4 hr3F hW4 hG4' hG4f hi4 hr4 e4 hlff hvp4 hXop hXC;go_wp2_with (rw [HW4.out])
 clear z0 z1 z2 z3 z4 z5 y0 y1 y2;go_loopg [72] S.lf.length (fun q v wr => ∃ i : Nat, q = S.lf.length - i ∧ i ≤ S.lf.length ∧ v = .int .i64 i ∧ GIn wr L4 p { XC4 with free := gvn S.fe (dnOf S.lf i) } d1 b1 A1 ca1 vp4 vt1 (some ⟨cc, 0, none⟩) ∧ Chg (fun j => L4 j = 3) W4 wr)
 case atStart =>
  refine ⟨0, rfl, Nat.zero_le _, rfl, ?_, Chg.refl _ _⟩;rw [dnOf_zero, gvn_none];exact HL.out.1
 case round =>
  obtain ⟨i, rfl, hi, rfl, hG, hC⟩ := hrel;by_cases hlt : i < S.lf.length
  ·obtain ⟨s, hs⟩ : ∃ s, S.lf[i]? = some s := ⟨_, List.getElem?_eq_getElem hlt⟩
   have hl3 := own_lab HL.out.2.1.lft HL.out.2.1.ll hC (by omega);have hl3' : wr.ownsRow 0 3 1 (.slice Al S.lf.length cl) S.lf.length (nv S.lf) := hl3;obtain ⟨gl, rfl, hgl⟩ := own_block hl3' (by omega)
   have cs : wr.cell? ⟨gl, i, none⟩ = some (.int .i64 s) := by
    have := hl3'.cells (g := gl) rfl i (.int .i64 s) (by simp [nv, hs]);rwa [Addr.add_lit, Nat.zero_add] at this
   obtain ⟨hfs1, hfs2⟩ := HL.out.2.2.2.1 s (List.mem_of_getElem? hs);have hs4 : s < 4096 := by have := (yP4 HL.out).2; omega
   have hgv := pgive_any b1 s _ A1 ca1 wr hG.pol (by show (gvn S.fe _).length ≤ 65536; rw [gvn_len]; have := (yP4 HL.out).2; omega);have htl := gvn_give S.fe (dnOf S.lf i) s hfs1 hfs2 (dnOf_new HL.out.2.2.1 hs)
   have hgv2 : Calls Tryz.prog 67 #[.pointer (some ⟨b1, 0, none⟩), .int .i64 (s : Int)] wr fun e w' => e = .returned (.int .i64 0) ∧ PIn w' b1 (gvn S.fe (setB (dnOf S.lf i) s true)) A1 ca1 ∧ Chg (PF b1 A1) wr w' := by
    rw [← show (toL (gvn S.fe (dnOf S.lf i)) (s : Int) true).1 = gvn S.fe (setB (dnOf S.lf i) s true) from by rw [htl]];refine hgv.mono fun e w' h => ?_;rw [show (toL ({ XC4 with free := gvn S.fe (dnOf S.lf i) } : Gp).free (s : Int) true) = (gvn S.fe (setB (dnOf S.lf i) s true), 0) from htl] at h
    rw [htl];exact h
   have HR := yH (yA4 hG hgv2 hs hC);obtain ⟨z0, z1, z2⟩ := hG.blk.facts;clear hG hgv hgv2 htl hfs1 hfs2 hs hC hl3 hl3';go_wp2_with (go_at_call 67; (refine HR.out.2.1.mono ?_); rintro e w5 ⟨rfl, h4, h5⟩; have H5 := yH (yA h4 h5); clear h4 h5 z0 z1 z2)
   obtain ⟨hG5, ht5⟩ := HR.out.1.pool H5.out.1 H5.out.2;go_roundg (S.lf.length - (i + 1))
   case measure => omega
   case rel =>
    refine ⟨i + 1, rfl, by omega, by simp, ?_, Chg.trans HR.out.2.2.2 ht5.chg fun j _ e => e⟩;rw [dnOf_step HR.out.2.2.1];exact hG5
  ·obtain rfl : i = S.lf.length := by omega
   have HD := yH (yA hG hC);obtain ⟨z0, z1, z2⟩ := hG.blk.facts;clear hG hC;go_wp2
   go_ret
   obtain ⟨L9, hG9, hr9⟩ := HD.out.1.close;have hr8 : Rch (fun j => L4 j ≠ 0) (fun j => L4 j ≠ 0) W4 wr := ⟨HD.out.2.mono fun j _ e => by omega, fun j hj => .inl hj⟩;rw [dnOf_all] at hG9
   refine ⟨rfl, S, H1.out.2.1, fun j => L9 j ≠ 0, ?_, ((yP4 HL.out).1.trans (hr8.trans hr9)).chg, ((yP4 HL.out).1.trans (hr8.trans hr9)).new⟩;rw [← HXC.out] at hG9;exact hG9.gs
end
section
open Go.RowKit Go.Maps
theorem gcommit_same (p : Nat) (F : Nat → Prop) (X : Gp) (o : Cg) (w : World) (h : GS w p F X) (hok : X.Ok) (hx : X.op = some o) (hno : ∀ k, o.touched k = false) :
  Calls Tryz.prog 26 #[.pointer (some ⟨p, 0, none⟩)] w fun e w' => e = .returned (.int .i64 0) ∧ GTo w w' p F (X.done o) := by
 have hrd := gready_any p F X w h;rw [hok.rdy hx] at hrd;have hv := hok.inv;simp only [Gp.old, Gp.fr, Gp.lf, Gp.tc, hx] at hv;obtain ⟨L, d, b, A, ca, vp, vt, vo, h, hF⟩ := h;have ho := h.opn;rw [hx] at ho;obtain ⟨cc, vw, M1, s1, vl, M2, s2, rfl, hi2⟩ := ho;obtain ⟨Al, cl, rfl, -⟩ := own_shape hi2.lft;obtain ⟨c0, f0, s0⟩ := h.blk.facts;obtain ⟨c1, f1, s1'⟩ := hi2.blk.facts
 have hlen := hi2.tch.len (t := 103) Tryz.underlying103 3;have hs2 : s2 = 0 := by rw [hi2.n2.1]; exact cntN_false fun k _ => hno k
 rw [hs2] at hlen
 have hlff : ∀ s ∈ o.left, s < X.free.length ∧ X.free.getD s false = false := fun s hs => by
  obtain ⟨-, i, hi, -⟩ := (hv.lf.2 s).1 hs;have := hv.rO i s hi;exact ⟨by rw [hv.lens.1]; exact this, (hv.acct s this).2 (.inr (.inr (.inl ⟨i, hi⟩)))⟩
 have hfe : X.free.length ≤ 4096 := by rw [hv.lens.1]; exact hv.sz.2.1
 have hlle : o.left.length ≤ 4096 := by
  have h1 := List.Nodup.length_le_of_subset hv.lf.1 (l₂ := List.range X.D.n) fun s hs => List.mem_range.2 (by have := (hlff s hs).1; rw [hv.lens.1] at this; exact this);rw [List.length_range] at h1;have := hv.sz;omega
 obtain rfl : F = fun j => L j ≠ 0 := funext fun j => propext (hF j);have HL := yH (yA5 (show GIn w L p { X with free := X.free } d b A ca vp vt (some ⟨cc, 0, none⟩) from h) hi2 hv.lf.1 hlff (yA (show Rch (fun j => L j ≠ 0) (fun j => L j ≠ 0) w w from Rch.grew (Chg.refl _ _)) hfe));have H := yH hrd;clear h hi2 hrd hv hlff hok hx hF hs2 hno hfe;go_enter Tryz.func26, Tryz.ntmps26
 go_wp2_with (go_at_call 54; (refine H.out.mono ?_); rintro e w1 ⟨rfl, rfl⟩)
 clear c0 f0 s0 c1 f1 s1' hlen;go_loopg [72] o.left.length (fun q v wr => ∃ i : Nat, q = o.left.length - i ∧ i ≤ o.left.length ∧ v = .int .i64 i ∧ GIn wr L p { X with free := gvn X.free (dnOf o.left i) } d b A ca vp vt (some ⟨cc, 0, none⟩) ∧ Chg (fun j => L j = 3) w wr)
 case atStart =>
  refine ⟨0, rfl, Nat.zero_le _, rfl, ?_, Chg.refl _ _⟩;rw [dnOf_zero, gvn_none];exact HL.out.1
 case round =>
  obtain ⟨i, rfl, hi, rfl, hG, hC⟩ := hrel;by_cases hlt : i < o.left.length
  ·obtain ⟨s, hs⟩ : ∃ s, o.left[i]? = some s := ⟨_, List.getElem?_eq_getElem hlt⟩
   have hl3 := own_lab HL.out.2.1.lft HL.out.2.1.ll hC (by omega);have hl3' : wr.ownsRow 0 3 1 (.slice Al o.left.length cl) o.left.length (nv o.left) := hl3;obtain ⟨gl, rfl, hgl⟩ := own_block hl3' (by omega)
   have cs : wr.cell? ⟨gl, i, none⟩ = some (.int .i64 s) := by
    have := hl3'.cells (g := gl) rfl i (.int .i64 s) (by simp [nv, hs]);rwa [Addr.add_lit, Nat.zero_add] at this
   obtain ⟨hfs1, hfs2⟩ := HL.out.2.2.2.1 s (List.mem_of_getElem? hs);have hs4 : s < 4096 := by have := (yP4 HL.out).2; omega
   have hgv := pgive_any b s _ A ca wr hG.pol (by show (gvn X.free _).length ≤ 65536; rw [gvn_len]; have := (yP4 HL.out).2; omega);have htl := gvn_give X.free (dnOf o.left i) s hfs1 hfs2 (dnOf_new HL.out.2.2.1 hs)
   have hgv2 : Calls Tryz.prog 67 #[.pointer (some ⟨b, 0, none⟩), .int .i64 (s : Int)] wr fun e w' => e = .returned (.int .i64 0) ∧ PIn w' b (gvn X.free (setB (dnOf o.left i) s true)) A ca ∧ Chg (PF b A) wr w' := by
    rw [← show (toL (gvn X.free (dnOf o.left i)) (s : Int) true).1 = gvn X.free (setB (dnOf o.left i) s true) from by rw [htl]];refine hgv.mono fun e w' h => ?_;rw [show (toL ({ X with free := gvn X.free (dnOf o.left i) } : Gp).free (s : Int) true) = (gvn X.free (setB (dnOf o.left i) s true), 0) from htl] at h
    rw [htl];exact h
   have HR := yH (yA4 hG hgv2 hs hC);obtain ⟨z0, z1, z2⟩ := hG.blk.facts;clear hG hgv hgv2 htl hfs1 hfs2 hs hC hl3 hl3';go_wp2_with (go_at_call 67; (refine HR.out.2.1.mono ?_); rintro e w5 ⟨rfl, h4, h5⟩; have H5 := yH (yA h4 h5); clear h4 h5 z0 z1 z2)
   obtain ⟨hG5, ht5⟩ := HR.out.1.pool H5.out.1 H5.out.2;go_roundg (o.left.length - (i + 1))
   case measure => omega
   case rel =>
    refine ⟨i + 1, rfl, by omega, by simp, ?_, Chg.trans HR.out.2.2.2 ht5.chg fun j _ e => e⟩;rw [dnOf_step HR.out.2.2.1];exact hG5
  ·obtain rfl : i = o.left.length := by omega
   have HD := yH (yA hG hC);obtain ⟨z0, z1, z2⟩ := hG.blk.facts;clear hG hC;go_wp2
   go_ret
   obtain ⟨L9, hG9, hr9⟩ := HD.out.1.close;have hr8 : Rch (fun j => L j ≠ 0) (fun j => L j ≠ 0) w wr := ⟨HD.out.2.mono fun j _ e => by omega, fun j hj => .inl hj⟩;rw [dnOf_all] at hG9
   refine ⟨rfl, fun j => L9 j ≠ 0, ?_, ((yP4 HL.out).1.trans (hr8.trans hr9)).chg, ((yP4 HL.out).1.trans (hr8.trans hr9)).new⟩;exact hG9.gs
end
section
open Go.RowKit Go.Maps
def Pk.kept : Pk → Pk
 | .new bs => .old bs
 | c => c
def Rp.comm (x : Rp) : Rp := { x with now := x.now.map Pk.kept, was := none, touched := fun _ => false, epoch := if cntN x.touched 64 = 0 then x.epoch else x.epoch + 1 }
def Rp.abort (x : Rp) : Rp := { x with now := x.was.getD [], was := none, touched := fun _ => false }
theorem pk_kept (D : Dk) (fr : Nat → Bool) (s : Nat) (h : fr s = true → 2 ≤ s) : (pk D fr s).kept = pk D (fun _ => false) s := by
 unfold pk;by_cases h0 : s = 0
 ·rw [if_pos h0, if_pos h0]; rfl
 ·rw [if_neg h0, if_neg h0]
  by_cases h1 : s = 1
  ·rw [if_pos h1, if_pos h1]; rfl
  ·rw [if_neg h1, if_neg h1]
   cases fr s <;> rfl
theorem tabs_fit (row need sz : Nat) : ∀ f k0, tabs row need sz f k0 = k0 ∨ fitsN (tabs row need sz f k0) sz = true
 | 0, k0 => .inl rfl
 | f + 1, k0 => by
  unfold tabs;split
  ·rename_i hc
   rcases tabs_fit row need sz f (k0 + 1) with e | e
   ·right; rw [e]; exact hc.1
   ·exact .inr e
  ·exact .inl rfl
theorem tabN_fit {n sz : Nat} (h : 0 < tabN n sz) : fitsN (tabN n sz) sz = true := by
 rcases tabs_fit (sz / 2) (n - 2) sz 64 0 with e | e
 ·unfold tabN at h; rw [e] at h; omega
 ·exact e
section
variable {D : Dk} {ep : Nat} {pg tb old lf : List Nat} {fe : List Bool} {fr tc : Nat → Bool}
theorem Inv.none_touched (h : Inv D ep pg tb old fe fr lf tc) (hn : ∀ k, tc k = false) : tb = old ∧ (∀ s, fr s = false) ∧ lf = [] := by
 have e : tb = old := List.ext_getElem? fun i => by
  by_cases e : tb[i]? = old[i]?
  ·exact e
  ·have := h.tcd i e; rw [hn] at this; cases this
 subst e;refine ⟨rfl, fun s => ?_, ?_⟩
 ·cases e : fr s with
  | false => rfl
  | true =>
   obtain ⟨-, -, -, h4, i, hi⟩ := h.frr s e;exact absurd hi (h4 i)
 ·cases lf with
  | nil => rfl
  | cons s t =>
   obtain ⟨-, i, h1, h2⟩ := (h.lf.2 s).1 (List.mem_cons_self);exact absurd h1 h2
theorem Inv.abort (h : Inv D ep pg tb old fe fr lf tc) : Inv D ep pg old old (gvn fe fr) (fun _ => false) [] (fun _ => false) := by
 refine ⟨h.sz, ⟨by rw [gvn_len]; exact h.lens.1, h.lens.2.1, h.lens.2.2.2, h.lens.2.2.2⟩, h.rO, h.rP, h.jO, h.jP, h.dis, fun s hs => ?_, fun s e => (by cases e), fun i s hi _ => .inr hi, h.jO, ⟨List.nodup_nil, fun s => ⟨fun e => (by cases e), fun e => by obtain ⟨-, i, h1, h2⟩ := e; exact absurd h1 h2⟩⟩, fun i hi => absurd rfl hi, fun k e => (by cases e), ?_, h.cln, h.dur, h.byt, h.epo⟩
 ·rw [gvn_at, h.lens.1]
  simp only [hs, decide_true, Bool.true_and, Bool.or_eq_false_iff];constructor
  ·rintro ⟨e1, e2⟩
   rcases (h.acct s hs).1 e1 with e | e | e | e
   ·exact .inl e
   ·exact .inr (.inl e)
   ·exact .inr (.inr (.inl e))
   ·rw [e2] at e; cases e
  ·rintro (e | ⟨k, e⟩ | ⟨i, e⟩ | e)
   ·refine ⟨(h.acct s hs).2 (.inl e), h.fr0 e⟩
   ·refine ⟨(h.acct s hs).2 (.inr (.inl ⟨k, e⟩)), ?_⟩
    cases q : fr s with
    | false => rfl
    | true => exact absurd e ((h.frr s q).2.2.1 k)
   ·refine ⟨(h.acct s hs).2 (.inr (.inr (.inl ⟨i, e⟩))), ?_⟩
    cases q : fr s with
    | false => rfl
    | true => exact absurd e ((h.frr s q).2.2.2.1 i)
   ·cases e
 ·rw [show cntN (fun _ => false) 64 = 0 from cntN_false fun _ _ => rfl]
  exact Nat.zero_le _
end
section
variable (p : Nat) (F : Nat → Prop) (x : Rp) (w : World)
theorem gp_commit (h : GP w p F x) (ho : x.was ≠ none) (hep : x.epoch < 1099511627776) :
  Calls Tryz.prog 26 #[.pointer (some ⟨p, 0, none⟩)] w fun e' w' => e' = .returned (.int .i64 0) ∧ GPTo w w' p F x.comm := by
 obtain ⟨X, h1, h2, rfl⟩ := h;obtain ⟨o, hx⟩ := Gp.view_op ho;have hv := h2.inv;simp only [Gp.old, Gp.fr, Gp.lf, Gp.tc, hx] at hv;have htc : X.view.touched = o.touched := by show X.tc = _; simp only [Gp.tc, hx]
 have hfr : X.fr = o.fresh := by simp only [Gp.fr, hx]
 have h64 : ∀ k, o.touched k = true → k < 64 := fun k hk => Nat.lt_of_lt_of_le (hv.tc6 k hk) hv.pg64
 have hnow : X.view.now.map Pk.kept = X.table.map (pk X.D fun _ => false) := by
  show (X.table.map (pk X.D X.fr)).map Pk.kept = _;rw [List.map_map, hfr];exact List.map_congr_left fun s _ => pk_kept X.D o.fresh s fun e => (hv.frr s e).1
 by_cases hc : cntN o.touched 64 = 0
 ·have hno : ∀ k, o.touched k = false := fun k => by
   cases e : o.touched k with
   | false => rfl
   | true =>
    have h9 : k ∈ keysL o.touched 64 := mem_keysL.2 ⟨h64 k e, e⟩;have h8 := keysL_len o.touched 64;rw [hc] at h8;rw [List.eq_nil_of_length_eq_zero h8] at h9
    cases h9
  obtain ⟨e1, e2, e3⟩ := hv.none_touched hno;refine (gcommit_same p F X o w h1 h2 hx hno).mono ?_;rintro e w1 ⟨rfl, h3⟩;refine ⟨rfl, h3.gp ⟨?_, h2.row, h2.up⟩ ?_⟩
  ·have hgv : (gvn X.free fun s => decide (s ∈ o.left)) = X.free := by rw [e3]; simpa using gvn_none X.free
   show Inv X.D X.epoch X.pages X.table X.table (gvn X.free fun s => decide (s ∈ o.left)) (fun _ => false) [] (fun _ => false);rw [hgv];have h9 := hv;rw [← e1, e3, show o.fresh = fun _ => false from funext e2, show o.touched = fun _ => false from funext hno] at h9;exact h9
  ·show Gp.view (X.done o) = Rp.comm X.view
   unfold Rp.comm;rw [hnow, htc, if_pos hc];simp [Gp.view, Gp.done, Gp.fr, Gp.tc]
 ·have hne : 0 < (keysL o.touched 64).length := by rw [keysL_len]; omega
  have hpl : 0 < X.pages.length := by
   obtain ⟨k, hk⟩ := List.exists_mem_of_length_pos hne;have := hv.tc6 k (mem_keysL.1 hk).2;omega
  have hfit : fitsN X.pages.length X.D.sz = true := by
   rw [hv.lens.2.1] at hpl ⊢;exact tabN_fit hpl
  refine (gcommit_touched p F X o w h1 h2 hx hne hep hfit).mono ?_;rintro e w1 ⟨rfl, S, hT, h3⟩;have hI := TInv.commit hv hT hep hfit;refine ⟨rfl, h3.gp ⟨hI, ?_, ?_⟩ ?_⟩
  ·show X.row = S.D.sz / 2
   rw [hT.n.2.1]; exact h2.row
  ·exact ⟨h2.up.1, by show S.D.down = false; rw [hT.n.2.2.1]; exact h2.up.2.1, by show S.D.armed = false; rw [hT.n.2.2.2]; exact h2.up.2.2⟩
  ·show Gp.view (X.comm S) = Rp.comm X.view
   unfold Rp.comm;rw [hnow, htc, if_neg hc]
   have e1 : X.table.map (pk (S.D.rooted (X.epoch + 1) S.pg) fun _ => false) = X.table.map (pk X.D fun _ => false) := List.map_congr_left fun s hs => by
    obtain ⟨i, hi⟩ := List.mem_iff_getElem?.1 hs;unfold pk;by_cases h0 : s = 0
    ·rw [if_pos h0, if_pos h0]
    ·by_cases h1 : s = 1
     ·rw [if_neg h0, if_pos h1, if_neg h0, if_pos h1]
     ·have hm2 := Nat.mod_lt (X.epoch + 1) (show 0 < 2 by omega)
      rw [if_neg h0, if_neg h1, if_neg h0, if_neg h1, Dk.rooted_rd, if_neg (show ¬ s = (X.epoch + 1) % 2 by omega)]
      rw [hT.rd s fun e => by
       rcases hv.cur i s hi (by omega) with e2 | e2
       ·exact e2
       ·exact absurd e2 ((hT.frn s e).2.2.2 i)]
   have hn := hT.n;unfold Gp.view Gp.comm;simp only [Gp.fr, Gp.tc, Option.map_none];rw [e1];show Rp.mk S.D.n S.D.sz _ _ _ _ = Rp.mk X.D.n X.D.sz _ _ _ _;rw [hn.1, hn.2.1]
theorem gp_abort (h : GP w p F x) (ho : x.was ≠ none) :
  Calls Tryz.prog 31 #[.pointer (some ⟨p, 0, none⟩)] w fun e' w' => e' = .returned (.int .i64 0) ∧ GPTo w w' p F x.abort := by
 obtain ⟨X, h1, h2, rfl⟩ := h;obtain ⟨o, hx⟩ := Gp.view_op ho;have hv := h2.inv;simp only [Gp.old, Gp.fr, Gp.lf, Gp.tc, hx] at hv;refine (gabort_ok p F X o w h1 h2 hx).mono ?_;rintro e w1 ⟨rfl, h3⟩;refine ⟨rfl, h3.gp ⟨hv.abort, h2.row, h2.up⟩ ?_⟩;show Gp.view (X.abort o) = Rp.abort X.view;unfold Rp.abort;rw [Gp.view_was hx];simp [Gp.view, Gp.abort, Gp.fr, Gp.tc]
end
end
section
open Go.RowKit Go.Maps
theorem rep_no_used (m row k : Nat) : partUsed row (List.replicate m Pk.no) k = false := by
 unfold partUsed;rw [List.any_eq_false];intro i _
 have : (List.replicate m Pk.no).getD (k * row + i) .no = .no := by
  rw [List.getD_eq_getElem?_getD, List.getElem?_replicate];split <;> rfl
 rw [this];simp [Pk.used]
theorem rep_no_tabs (n sz m : Nat) : tabsUsed n sz (List.replicate m Pk.no) = 0 := by
 unfold tabsUsed;refine List.countP_eq_zero.2 fun k _ => ?_;rw [rep_no_used];simp
theorem rep_no_count (m : Nat) (f : Pk → Bool) (h : f .no = false) : (List.replicate m Pk.no).countP f = 0 := by
 rw [List.countP_replicate, h]; rfl
theorem fresh_free (n sz : Nat) : (Rp.fresh n sz).free = (n : Int) - 2 ∧ (Rp.fresh n sz).begun.free = (n : Int) - 2 ∧ (Rp.fresh n sz).room = (n : Int) - 2 ∧ (Rp.fresh n sz).begun.room = (n : Int) - 2 := by
 have h1 : (Rp.fresh n sz).free = (n : Int) - 2 := by
  show (n : Int) - 2 - (tabsUsed n sz (List.replicate (capN n sz) Pk.no) : Nat) - ((List.replicate (capN n sz) Pk.no).countP Pk.isOld : Nat) - ((List.replicate (capN n sz) Pk.no).countP Pk.isNew : Nat) = _;rw [rep_no_tabs, rep_no_count _ _ rfl, rep_no_count _ _ rfl];omega
 have h2 : (Rp.fresh n sz).begun.free = (n : Int) - 2 := h1;have h3 : cntN (fun _ => false) 64 = 0 := cntN_false fun _ _ => rfl;refine ⟨h1, h2, ?_, ?_⟩
 ·show (Rp.fresh n sz).free - (cntN (fun _ => false) 64 : Nat) = _
  rw [h1, h3]; simp
 ·show (Rp.fresh n sz).begun.free - (cntN (fun _ => false) 64 : Nat) = _
  rw [h2, h3]; simp
end
section
open Go.RowKit Go.Maps
theorem Pk.kept_used (c : Pk) : c.kept.used = c.used := by cases c <;> rfl
theorem Pk.kept_bytes (c : Pk) (sz : Nat) : c.kept.bytes sz = c.bytes sz := by cases c <;> rfl
theorem Rp.comm_nd (x : Rp) (q : Nat) : x.comm.nd q = x.nd q := by
 unfold Rp.nd Rp.comm;simp only [List.getElem?_map]
 cases x.now[q]? with
 | none => rfl
 | some c => simp [Pk.kept_used, Pk.kept_bytes]
section
variable {x z : Rp} {D root : Nat} {L : List KV} {P : List Nat}
theorem TS.comm (h : TS x D root L P) : TS x.comm D root L P := by
 refine ⟨h.tr.frame fun i _ => Rp.comm_nd x i, h.nd, h.srt, ?_⟩;show (x.now.map Pk.kept).countP Pk.used = _;rw [List.countP_map, show Pk.used ∘ Pk.kept = Pk.used from funext Pk.kept_used];exact h.used
theorem TS.begun (h : TS x D root L P) : TS x.begun D root L P := ⟨h.tr, h.nd, h.srt, h.used⟩
theorem like_abort_now (hl : x.begun.like z) : z.abort.now = x.now ∧ z.abort.sz = x.sz ∧ z.abort.was = none ∧ z.abort.epoch = x.epoch := by
 refine ⟨?_, hl.sz, rfl, hl.epoch⟩;show z.was.getD [] = x.now;rw [hl.was];rfl
theorem TS.abort (h : TS x D root L P) (hl : x.begun.like z) : TS z.abort D root L P := by
 obtain ⟨h1, h2, -, -⟩ := like_abort_now hl;have hn : ∀ q, z.abort.nd q = x.nd q := fun q => by unfold Rp.nd; rw [h1, h2]
 exact ⟨by rw [h2]; exact h.tr.frame fun i _ => hn i, h.nd, h.srt, by rw [h1]; exact h.used⟩
theorem Rp.comm_epoch (x : Rp) : x.comm.epoch ≤ x.epoch + 1 := by
 show (if cntN x.touched 64 = 0 then x.epoch else x.epoch + 1) ≤ x.epoch + 1;split
 ·exact Nat.le_succ _
 ·exact Nat.le_refl _
end
section
variable {w W W1 W2 W3 : World} {t p r : Nat} {x0 : Rp} {L R : List KV} {F F' F2 : Nat → Prop} {y y' : Rp} {D D' : Nat} {P P' : List Nat} {A A2 : Option Addr} {c2 : Nat}
theorem PlJ.go (h : PlJ w W t p r x0 L F y D P A) (hb : BT W1 t p r F' y') (hr : Rch F F' W W1) (hs : TS y' D' r L P') : PlJ w W1 t p r y' L F' y' D' P' A := by
 have hz := h.gr.size;refine ⟨hb, hs, .refl _, Chg.trans h.gr hr.chg fun j hj e => by have := h.fn j e; omega, fun j hj => (hr.new j hj).elim (h.fn j) fun e => by omega, h.sl.chg hr.chg fun a ha => (h.af a ha).1, fun a ha => ?_⟩;have h1 := h.af a ha;have := hr.chg.size;exact ⟨fun e => (hr.new _ e).elim h1.1 fun e => by omega, by omega⟩
theorem PlJ.op (h : PlJ w W1 t p r x0 L F y D P A) (ho : W2.ownsRow W1.heap.size 41 2 (.slice A2 R.length c2) R.length (kvs2 R)) (hg : Grew W1 W2) (hb : BT W3 t p r F2 y') (hr : Rch F F2 W2 W3) (hs : TS y' D' r R P') : PlJ w W3 t p r y' R F2 y' D' P' A2 := by
 have hz := h.gr.size;have hz1 := hg.size;have hz2 := hr.chg.size;have hFl := h.bt.gp.lt;have hrg := own_rng ho;refine ⟨hb, hs, .refl _, Chg.trans (Grew.trans h.gr hg) hr.chg fun j hj e => by have := h.fn j e; omega, fun j hj => (hr.new j hj).elim (h.fn j) fun e => by omega, (Sl.of_own ho).chg hr.chg fun a ha e => by have := (hrg a ha).1; have := hFl _ e; omega, fun a ha => ?_⟩
 have h1 := hrg a ha;exact ⟨fun e => (hr.new _ e).elim (fun e => by have := hFl _ e; omega) fun e => by omega, by omega⟩
theorem PlJ.commit (h : PlJ w W t p r x0 L F y D P A) (ho : y.was ≠ none) (he : y.epoch < 1000) :
  Calls Tryz.prog 26 #[.pointer (some ⟨p, 0, none⟩)] W fun e w' => e = .returned (.int .i64 0) ∧ ∃ F', PlJ w w' t p r y.comm L F' y.comm D P A := by
 refine (gp_commit p F y W h.bt.gp ho (by omega)).mono ?_;rintro e w1 ⟨rfl, hto⟩;obtain ⟨F1, hb1, hc1, hn1⟩ := h.bt.to hto;exact ⟨rfl, F1, h.go hb1 ⟨hc1, hn1⟩ h.ts.comm⟩
theorem PlJ.begin (h : PlJ w W t p r x0 L F y D P A) (ho : y.was = none) :
  Calls Tryz.prog 27 #[.pointer (some ⟨p, 0, none⟩)] W fun e w' => e = .returned (.int .i64 0) ∧ ∃ F', Rch F F' W w' ∧ PlJ w w' t p r y.begun L F' y.begun D P A := by
 refine (gp_begin p F y W h.bt.gp ho).mono ?_;rintro e w1 ⟨rfl, hto⟩;obtain ⟨F1, hb1, hc1, hn1⟩ := h.bt.to hto;exact ⟨rfl, F1, ⟨hc1, hn1⟩, h.go hb1 ⟨hc1, hn1⟩ h.ts.begun⟩
theorem PlJ.abort (h : PlJ w W t p r x0 L F y.begun D P A) (hts : TS y D r L P) {z : Rp} (hb : BT W1 t p r F' z) (hr : Rch F F' W W1) (hl : y.begun.like z) :
  Calls Tryz.prog 31 #[.pointer (some ⟨p, 0, none⟩)] W1 fun e w' => e = .returned (.int .i64 0) ∧ ∃ F2, PlJ w w' t p r z.abort L F2 z.abort D P A := by
 refine (gp_abort p F' z W1 hb.gp (by rw [hl.was]; simp [Rp.begun])).mono ?_;rintro e w2 ⟨rfl, hto⟩;obtain ⟨F2, hb2, hc2, hn2⟩ := hb.to hto;exact ⟨rfl, F2, h.go hb2 (hr.trans ⟨hc2, hn2⟩) (hts.abort hl)⟩
end
theorem tabsF : ((List.range 61).all fun n => decide (n < 10) || (decide (tabN n 64 ≤ 5) && decide (1 ≤ capN n 64))) = true := by kernel_rfl
theorem opened_few {n : Nat} (h1 : 10 ≤ n) (h2 : n ≤ 60) : 1 ≤ (Rp.opened n 64).slack ∧ 0 < capN n 64 := by
 have h := List.all_eq_true.1 tabsF n (List.mem_range.2 (by omega));simp only [Bool.or_eq_true, Bool.and_eq_true, decide_eq_true_eq] at h;obtain ⟨h3, h4⟩ := h.resolve_left (by omega);refine ⟨?_, h4⟩;have e : (Rp.opened n 64).slack = (Rp.fresh n 64).begun.free - (tabN n 64 : Nat) := rfl;rw [e, (fresh_free n 64).2.1];omega
end
section
open Go.RowKit Go.Maps
theorem delL_none {L : List KV} {k : Int} (h1 : getK L k = none) : delL L k = L := delL_free fun y hy e => by
 unfold getK at h1;rw [Option.map_eq_none_iff, List.find?_eq_none] at h1;exact h1 y hy (by simpa using e)
theorem full_out (w : World) (hT : TabAt 0 tab w) (A : Option Addr) (c : Nat) (l : List Trop) (n : Int) (ht : -9223372036854775808 ≤ n ∧ n ≤ 9223372036854775807) (hm : l.length ≤ 9223372036854775807) (ho : n < 10 ∨ 60 < n ∨ 150 < l.length) :
  Calls Tryz.prog 7 #[.int .i64 n, .slice A l.length c] w fun e w' => e = .returned (.bool true) ∧ Grew w w' := by
 have HA := yH (bawake_any w hT)
 have t0 : (decide (n < 10) = true) ∨ (decide (n < 10) = false ∧ decide (60 < n) = true) ∨ (decide (n < 10) = false ∧ decide (60 < n) = false ∧ decide ((150 : Int) < (l.length : Int)) = true) := by
  by_cases a : n < 10
  ·exact .inl (decide_eq_true a)
  ·by_cases b : 60 < n
   ·exact .inr (.inl ⟨decide_eq_false a, decide_eq_true b⟩)
   ·exact .inr (.inr ⟨decide_eq_false a, decide_eq_false b, decide_eq_true (by omega)⟩)
 obtain ⟨ht1, ht2⟩ := ht;clear ho hT;rcases t0 with t1 | ⟨t1, t2⟩ | ⟨t1, t2, t3⟩
 all_goals
  go_enter Tryz.func7, Tryz.ntmps7
  go_wp2_with fail
  refine HA.out.mono ?_;rintro e w1 ⟨rfl, hg⟩;have HG := yH hg;clear hg;go_wp2_with fail
  go_ret
  exact ⟨rfl, HG.out⟩
theorem full_in (w : World) (hT : TabAt 0 tab w) (A0 : Option Addr) (c0' : Nat) (l : List Trop) (n : Nat) (h1 : 10 ≤ n) (h2 : n ≤ 60) (hl : l.length ≤ 150) (hs : Sl w 3 A0 l.length (l.flatMap Trop.vals)) (ok : ∀ o ∈ l, o.ok) :
  Calls Tryz.prog 7 #[.int .i64 n, .slice A0 l.length c0'] w fun e w' => e = .returned (.bool true) ∧ Grew w w' := by
 have t1 : decide ((n : Int) < 10) = false := decide_eq_false (by omega);have t2 : decide ((60 : Int) < (n : Int)) = false := decide_eq_false (by omega);have t3 : decide ((150 : Int) < (l.length : Int)) = false := decide_eq_false (by omega);have ho := opened_few h1 h2;have hfr := bfresh_any n 64 w hT (by omega) (by omega) (by omega) (by omega) ho.1 ho.2;have H := yH (yA4 hfr hT hs ok)
 clear hfr hT hs ok ho;go_enter Tryz.func7, Tryz.ntmps7
 go_wp2_with fail
 refine H.out.1.mono ?_;rintro e w1 ⟨t, p, d, r, F, rfl, hr, hb, hg, hF, ht⟩
 have hJ0 : PlJ w w1 t p r (Rp.tree0 n 64 r) [] F (Rp.tree0 n 64 r) 0 [r] none :=
  ⟨hb, tree0_ts hr (by omega), .refl _, hg, hF, Sl.nil _ _ _, fun a ha => by cases ha⟩
 have hcm := hJ0.commit (by rw [tree0_like.was]; simp [Rp.opened, Rp.begun]) (by rw [tree0_like.epoch]; simp [Rp.opened, Rp.begun, Rp.fresh]);have he0 := Rp.comm_epoch (Rp.tree0 n 64 r);rw [show (Rp.tree0 n 64 r).epoch = 0 from rfl] at he0;have H1 := yH (yA hcm he0);clear hcm he0 hJ0 hr hb hg hF ht;go_wp2_with fail
 refine H1.out.1.mono ?_;rintro e w2 ⟨rfl, F2, hJ1⟩;have H2 := yH hJ1;clear hJ1;go_wp2_with fail
 go_loopg [8, 38] (l.length) (fun n xv iv wr => ∃ (k : Nat) (L : List KV) (F : Nat → Prop) (y : Rp) (D : Nat) (P : List Nat) (A : Option Addr) (c : Nat), n = l.length - k ∧ k ≤ l.length ∧ iv = .int .i64 k ∧ xv = .slice A L.length c ∧ PlJ w wr t p r y L F y D P A ∧ y.was = none ∧ y.epoch ≤ k + 1 ∧ L.length ≤ k)
 case atStart => exact ⟨0, [], F2, _, 0, [r], none, 0, rfl, Nat.zero_le _, rfl, rfl, H2.out, rfl, H1.out.2, Nat.le_refl _⟩
 case round =>
  obtain ⟨k, L, F, y, D, P, A, c, rfl, hk, rfl, rfl, hJ, hwas, hep, hLk⟩ := hrel;have hh := half_two hJ.bt.gp.szs.2.2.1;have hD := hJ.ts.depth hh (by omega);by_cases hlt : k < l.length
  ·obtain ⟨o, ho⟩ : ∃ o, l[k]? = some o := ⟨_, List.getElem?_eq_getElem hlt⟩
   have hok := H.out.2.2.2 o (List.mem_of_getElem? ho);obtain ⟨g, off, rfl, hb, d0, d1, d2⟩ := (H.out.2.2.1.grew hJ.gr).atTrop ho;have hgo : Grew wr (wr.alloc (.cells #[.int .i64 o.kind, .int .i64 o.key, .int .i64 o.val] 37)) := (Chg.refl _ wr).alloc _
   have hob0 : Blk (wr.alloc (.cells #[.int .i64 o.kind, .int .i64 o.key, .int .i64 o.val] 37)) wr.heap.size 37 #[.int .i64 o.kind, .int .i64 o.key, .int .i64 o.val] := Blk.new wr _ _;have hoz : (wr.alloc (.cells #[.int .i64 o.kind, .int .i64 o.key, .int .i64 o.val] 37)).heap.size = wr.heap.size + 1 := by simp
   have hnf0 : ¬ F wr.heap.size := fun e => by have := hJ.bt.gp.lt _ e; omega
   have hJ1 := hJ.grew hgo;have HJ1 := yH (yA5 (hJ1.begin hwas) hob0 hoz hnf0 (yA hJ1 hok));have hkI : (k : Int) < (l.length : Int) := by omega
   clear ho hgo hob0 hoz hnf0 hJ1 hok hb hwas hJ;go_wp2_with fail
   refine HJ1.out.1.mono ?_;rintro e w3 ⟨rfl, F3, hr3, hJ3⟩;have hob3 := HJ1.out.2.1.chg hr3.chg HJ1.out.2.2.2.1;have hnf3 : ¬ F3 wr.heap.size := fun e => (hr3.new _ e).elim HJ1.out.2.2.2.1 fun e => by have := HJ1.out.2.2.1; omega
   obtain ⟨bo, hbo⟩ : ∃ b, wr.heap.size = b := ⟨_, rfl⟩;rw [hbo] at hob3 hnf3 ⊢;obtain ⟨e0, ef0, es0⟩ := hob3.facts;have H3 := yH (yA4 hJ3 hob3 hnf3 hr3);have HOK := yH (yP4 HJ1.out).2;have hwr := (yP4 HJ1.out).1;have HW := yH hwr;clear hr3 hJ3 hob3 hnf3 hbo HJ1 d0 d1 d2 hwr;have hL3 := H3.out.1.ts.srt;have HS3 := yH hL3;clear hL3;by_cases hk1 : o.kind = 1
   ·have u1 : (o.kind == 1) = true := by simp [hk1]
    have hxp := xput_any o.key o.val L A c w3.drew (H3.out.1.grew (Chg.refl NoF _).drew).sl (by omega) HS3.out;have HP := yH hxp;have hd1 : (fun w' : World => w'.cell? ⟨bo, 1, none⟩ = some (.int .i64 o.key) ∧ w'.cell? ⟨bo, 2, none⟩ = some (.int .i64 o.val)) w3.drew := ⟨H3.out.2.1.drew.cell 1, H3.out.2.1.drew.cell 2⟩;clear hxp hk1;go_wp2_with fail
    refine wp_region_held_drew (S := fun w' => w'.cell? ⟨bo, 1, none⟩ = some (.int .i64 o.key) ∧ w'.cell? ⟨bo, 2, none⟩ = some (.int .i64 o.val)) (by kernel_rfl) hd1 (fun hHeld => ?_);refine Todo.out (is := [0, 1, 2, 3, 4, 6, 7, 8, 9, 10]) ?_
    repeat
     refine tkH (v := ?_) rfl (Or.inl ⟨by rfl, ?_⟩) hHeld ?_;rotate_left
     ·(intro w hSw; (try dsimp only at hSw); go_simp) <;> with_reducible rfl
     (try simp only [Act.put, lZ])
    refine Todo.fin ?_;refine rdH (i := 5) (by kernel_rfl) rfl fun K hK => ?_;go_simp;refine HP.out.mono ?_;rintro e w4 ⟨A4, c4, rfl, ho4, hg4⟩;have hg34 : Grew w3 w4 := Grew.trans ((Chg.refl NoF _).drew) hg4;have hob4 := H3.out.2.1.grew hg34
    have hd2 : (fun w' : World => w'.cell? ⟨bo, 1, none⟩ = some (.int .i64 o.key) ∧ w'.cell? ⟨bo, 2, none⟩ = some (.int .i64 o.val)) w4 := ⟨hob4.cell 1, hob4.cell 2⟩;have hJ4 := H3.out.1.grew hg34;have hpu := bput2_any t p r D o.key o.val L P F3 y.begun w4 hJ4.bt (by simp [Rp.begun]) hJ4.ts (by omega) ⟨HOK.out.2.2.1, HOK.out.2.2.2.1⟩ ⟨(yP4 HOK.out).1, (yP4 HOK.out).2⟩
    have H4 := yH (yA5 hpu ho4 hg4 hob4 hJ4);clear hpu ho4 hg4 hob4 hJ4 hg34;refine hK.out _ _ hd2 (fun _ => ?_);clear hK K;(try simp only [Act.put, lZ])
    refine rdH (i := 11) (by kernel_rfl) rfl fun K hK => ?_;go_simp;refine H4.out.1.mono ?_;rintro e w5 (⟨rfl, y', F', D', P', b1, b2, b3, b4⟩ | ⟨rfl, z, ⟨F', b1, b2, b2n⟩, b3, b4, b5⟩)
    ·have hJ5 := (H3.out.1.grew (Chg.refl NoF _).drew).op H4.out.2.1 H4.out.2.2.1 b1 b2 b4
     have hob5 := H4.out.2.2.2.1.chg b2.chg H3.out.2.2.1;have hd3 : (fun w' : World => w'.cell? ⟨bo, 1, none⟩ = some (.int .i64 o.key) ∧ w'.cell? ⟨bo, 2, none⟩ = some (.int .i64 o.val)) w5 := ⟨hob5.cell 1, hob5.cell 2⟩;have hy'e : y'.epoch ≤ k + 1 := by rw [b3.epoch]; exact hep
     have hcm := hJ5.commit (by rw [b3.was]; simp [Rp.begun]) (by omega);have HC := yH (yA hcm hy'e);have HO5 := yH hob5;clear hJ5 hob5 hy'e hcm b1 b2 b3 b4;refine hK.out _ _ hd3 (fun _ => ?_);clear hK K;(try simp only [Act.put, lZ])
     refine Todo.out (is := [12, 13]) ?_
     repeat
      refine tkH (v := ?_) rfl (Or.inl ⟨by rfl, ?_⟩) hd3 ?_;rotate_left
      ·(intro w hSw; (try dsimp only at hSw); go_simp) <;> with_reducible rfl
      (try simp only [Act.put, lZ])
     refine Todo.fin ?_;refine wpAnyH_done (by kernel_rfl) ?_ _;clear hHeld hd1 hd2 hd3 e0 ef0 es0;obtain ⟨e0, ef0, es0⟩ := HO5.out.facts;go_wp2_with fail
     refine HC.out.1.mono ?_;rintro e w6 ⟨rfl, F6, hJ6⟩;have H6 := yH hJ6;clear hJ6 e0 ef0 es0;go_wp2_with fail
     go_roundg (l.length - (k + 1))
     case measure => omega
     case rel => exact ⟨k + 1, _, F6, y'.comm, D', P', A4, c4, rfl, by omega, by simp, rfl, H6.out, rfl, by have := Rp.comm_epoch y'; have := HC.out.2; omega, by have := putL_le L o.key o.val; omega⟩
    ·have hob5 := H4.out.2.2.2.1.chg b2 H3.out.2.2.1
     have hd3 : (fun w' : World => w'.cell? ⟨bo, 1, none⟩ = some (.int .i64 o.key) ∧ w'.cell? ⟨bo, 2, none⟩ = some (.int .i64 o.val)) w5 := ⟨hob5.cell 1, hob5.cell 2⟩;have hts : TS y D r L P := ⟨HW.out.ts.tr, HW.out.ts.nd, HW.out.ts.srt, HW.out.ts.used⟩;have hab := (yP4 H4.out).abort hts b1 ⟨b2, b2n⟩ b3;have hze := (like_abort_now b3).2.2.2;have HC := yH (yA hab hze);have HO5 := yH hob5
     clear hob5 hab hze b1 b2 b2n b3 b4 b5 hts;refine hK.out _ _ hd3 (fun _ => ?_);clear hK K;(try simp only [Act.put, lZ])
     refine Todo.out (is := [12, 13]) ?_
     repeat
      refine tkH (v := ?_) rfl (Or.inl ⟨by rfl, ?_⟩) hd3 ?_;rotate_left
      ·(intro w hSw; (try dsimp only at hSw); go_simp) <;> with_reducible rfl
      (try simp only [Act.put, lZ])
     refine Todo.fin ?_;refine wpAnyH_done (by kernel_rfl) ?_ _;clear hHeld hd1 hd2 hd3 e0 ef0 es0;obtain ⟨e0, ef0, es0⟩ := HO5.out.facts;go_wp2_with fail
     refine HC.out.1.mono ?_;rintro e w6 ⟨rfl, F6, hJ6⟩;have hsa := bsame_any t p r D _ P F6 z.abort A c w6 hJ6.bt hJ6.ts (by omega) (by omega) hJ6.sl hJ6.af;have H6 := yH (yA hsa hJ6);clear hJ6 hsa e0 ef0 es0;go_wp2_with fail
     refine H6.out.1.mono ?_;rintro e w7 ⟨rfl, hb7, hc7⟩;have H7 := yH (H6.out.2.kept hb7 hc7);clear hb7 hc7;go_wp2_with fail
     go_roundg (l.length - (k + 1))
     case measure => omega
     case rel => exact ⟨k + 1, L, F6, z.abort, D, P, A, c, rfl, by omega, by simp, rfl, H7.out, rfl, by have := HC.out.2; omega, by omega⟩
   have u1 : (o.kind == 1) = false := by simp [hk1]
   by_cases hk2 : o.kind = 2
   ·have u2 : (o.kind == 2) = true := by simp [hk2]
    have hxp := xdel_any o.key L A c w3.drew (H3.out.1.grew (Chg.refl NoF _).drew).sl (by omega);have HP := yH hxp;have hd1 : (fun w' : World => w'.cell? ⟨bo, 1, none⟩ = some (.int .i64 o.key)) w3.drew := H3.out.2.1.drew.cell 1;clear hxp hk1 hk2;go_wp2_with fail
    refine wp_region_held_drew (S := fun w' => w'.cell? ⟨bo, 1, none⟩ = some (.int .i64 o.key)) (by kernel_rfl) hd1 (fun hHeld => ?_);refine Todo.out (is := [0, 1, 2, 4, 5, 6]) ?_
    repeat
     refine tkH (v := ?_) rfl (Or.inl ⟨by rfl, ?_⟩) hHeld ?_;rotate_left
     ·(intro w hSw; (try dsimp only at hSw); go_simp) <;> with_reducible rfl
     (try simp only [Act.put, lZ])
    refine Todo.fin ?_;refine rdH (i := 3) (by kernel_rfl) rfl fun K hK => ?_;go_simp;refine HP.out.mono ?_;rintro e w4 ⟨A4, c4, rfl, ho4, hg4⟩;have hg34 : Grew w3 w4 := Grew.trans ((Chg.refl NoF _).drew) hg4;have hob4 := H3.out.2.1.grew hg34;have hd2 : (fun w' : World => w'.cell? ⟨bo, 1, none⟩ = some (.int .i64 o.key)) w4 := hob4.cell 1;have hJ4 := H3.out.1.grew hg34
    have hde := bdel2_any t p r D o.key L P F3 y.begun w4 hJ4.bt (by simp [Rp.begun]) hJ4.ts (by omega);have H4 := yH (yA5 hde ho4 hg4 hob4 hJ4);clear hde ho4 hg4 hob4 hJ4 hg34;refine hK.out _ _ hd2 (fun _ => ?_);clear hK K;(try simp only [Act.put, lZ])
    refine rdH (i := 7) (by kernel_rfl) rfl fun K hK => ?_;go_simp;refine H4.out.1.mono ?_;rintro e w5 (⟨rfl, -, y', F', D', P', b1, b2, b3, b4⟩ | ⟨rfl, b0, b1, b2⟩ | ⟨rfl, z, ⟨F', b1, b2, b2n⟩, b3, b4, b5⟩)
    ·have hJ5 := (H3.out.1.grew (Chg.refl NoF _).drew).op H4.out.2.1 H4.out.2.2.1 b1 b2 b4
     have hob5 := H4.out.2.2.2.1.chg b2.chg H3.out.2.2.1;have hd3 : (fun w' : World => w'.cell? ⟨bo, 1, none⟩ = some (.int .i64 o.key)) w5 := hob5.cell 1;have hy'e : y'.epoch ≤ k + 1 := by rw [b3.epoch]; exact hep
     have hcm := hJ5.commit (by rw [b3.was]; simp [Rp.begun]) (by omega);have HC := yH (yA hcm hy'e);have HO5 := yH hob5;clear hJ5 hob5 hy'e hcm b1 b2 b3 b4;refine hK.out _ _ hd3 (fun _ => ?_);clear hK K;(try simp only [Act.put, lZ])
     refine Todo.out (is := [8, 9]) ?_
     repeat
      refine tkH (v := ?_) rfl (Or.inl ⟨by rfl, ?_⟩) hd3 ?_;rotate_left
      ·(intro w hSw; (try dsimp only at hSw); go_simp) <;> with_reducible rfl
      (try simp only [Act.put, lZ])
     refine Todo.fin ?_;refine wpAnyH_done (by kernel_rfl) ?_ _;clear hHeld hd1 hd2 hd3 e0 ef0 es0;obtain ⟨e0, ef0, es0⟩ := HO5.out.facts;go_wp2_with fail
     refine HC.out.1.mono ?_;rintro e w6 ⟨rfl, F6, hJ6⟩;have H6 := yH hJ6;clear hJ6 e0 ef0 es0;go_wp2_with fail
     go_roundg (l.length - (k + 1))
     case measure => omega
     case rel => exact ⟨k + 1, _, F6, y'.comm, D', P', A4, c4, rfl, by omega, by simp, rfl, H6.out, rfl, by have := Rp.comm_epoch y'; have := HC.out.2; omega, by have : (delL L o.key).length ≤ L.length := List.length_filter_le _ _; omega⟩
    ·have hdl := delL_none b0
     have hJ5 := (H3.out.1.grew (Chg.refl NoF _).drew).op H4.out.2.1 H4.out.2.2.1 b1 ⟨b2, fun j e => .inl e⟩ (show TS y.begun D r (delL L o.key) P by rw [hdl]; exact H3.out.1.ts);have hob5 := H4.out.2.2.2.1.chg b2 H3.out.2.2.1;have hd3 : (fun w' : World => w'.cell? ⟨bo, 1, none⟩ = some (.int .i64 o.key)) w5 := hob5.cell 1
     have hcm := hJ5.commit (by simp [Rp.begun]) (show y.begun.epoch < 1000 from (show y.epoch < 1000 by omega));have hsl5 := ((yP4 H4.out).kept b1 b2).sl;have hfd := xfind_any o.key L A c w5 hsl5 (by omega);have HC := yH (yA3 hcm hfd b0);have HO5 := yH hob5;clear hJ5 hob5 hcm hsl5 hfd b0 b1 b2 hdl;refine hK.out _ _ hd3 (fun _ => ?_);clear hK K;(try simp only [Act.put, lZ])
     refine Todo.out (is := [8, 9]) ?_
     repeat
      refine tkH (v := ?_) rfl (Or.inl ⟨by rfl, ?_⟩) hd3 ?_;rotate_left
      ·(intro w hSw; (try dsimp only at hSw); go_simp) <;> with_reducible rfl
      (try simp only [Act.put, lZ])
     refine Todo.fin ?_;refine wpAnyH_done (by kernel_rfl) ?_ _;clear hHeld hd1 hd2 hd3 e0 ef0 es0;obtain ⟨e0, ef0, es0⟩ := HO5.out.facts;go_wp2_with fail
     refine HC.out.2.1.mono ?_;rintro e w6 ⟨rr, rfl, hrr, rfl⟩;rcases fd_some HS3.out hrr with ⟨i, v, -, -, hgk⟩ | ⟨rfl, -⟩
     ·rw [HC.out.2.2] at hgk; cases hgk
     clear hrr e0 ef0 es0;go_wp2_with fail
     refine HC.out.1.mono ?_;rintro e w6 ⟨rfl, F6, hJ6⟩;have H6 := yH hJ6;clear hJ6;go_wp2_with fail
     go_roundg (l.length - (k + 1))
     case measure => omega
     case rel => exact ⟨k + 1, _, F6, y.begun.comm, D, P, A4, c4, rfl, by omega, by simp, rfl, H6.out, rfl, by have := Rp.comm_epoch y.begun; have : y.begun.epoch = y.epoch := rfl; omega, by have : (delL L o.key).length ≤ L.length := List.length_filter_le _ _; omega⟩
    ·have hob5 := H4.out.2.2.2.1.chg b2 H3.out.2.2.1
     have hd3 : (fun w' : World => w'.cell? ⟨bo, 1, none⟩ = some (.int .i64 o.key)) w5 := hob5.cell 1;have hts : TS y D r L P := ⟨HW.out.ts.tr, HW.out.ts.nd, HW.out.ts.srt, HW.out.ts.used⟩;have hab := (yP4 H4.out).abort hts b1 ⟨b2, b2n⟩ b3;have hze := (like_abort_now b3).2.2.2;have HC := yH (yA hab hze);have HO5 := yH hob5;clear hob5 hab hze b1 b2 b2n b3 b4 b5 hts
     refine hK.out _ _ hd3 (fun _ => ?_);clear hK K;(try simp only [Act.put, lZ])
     refine Todo.out (is := [8, 9]) ?_
     repeat
      refine tkH (v := ?_) rfl (Or.inl ⟨by rfl, ?_⟩) hd3 ?_;rotate_left
      ·(intro w hSw; (try dsimp only at hSw); go_simp) <;> with_reducible rfl
      (try simp only [Act.put, lZ])
     refine Todo.fin ?_;refine wpAnyH_done (by kernel_rfl) ?_ _;clear hHeld hd1 hd2 hd3 e0 ef0 es0;obtain ⟨e0, ef0, es0⟩ := HO5.out.facts;go_wp2_with fail
     refine HC.out.1.mono ?_;rintro e w6 ⟨rfl, F6, hJ6⟩;have hsa := bsame_any t p r D _ P F6 z.abort A c w6 hJ6.bt hJ6.ts (by omega) (by omega) hJ6.sl hJ6.af;have H6 := yH (yA hsa hJ6);clear hJ6 hsa e0 ef0 es0;go_wp2_with fail
     refine H6.out.1.mono ?_;rintro e w7 ⟨rfl, hb7, hc7⟩;have H7 := yH (H6.out.2.kept hb7 hc7);clear hb7 hc7;go_wp2_with fail
     go_roundg (l.length - (k + 1))
     case measure => omega
     case rel => exact ⟨k + 1, L, F6, z.abort, D, P, A, c, rfl, by omega, by simp, rfl, H7.out, rfl, by have := HC.out.2; omega, by omega⟩
   ·have u2 : (o.kind == 2) = false := by simp [hk2]
    have hcm := H3.out.1.commit (by simp [Rp.begun]) (show y.begun.epoch < 1000 from (show y.epoch < 1000 by omega));have HC := yH hcm;clear hcm hk1 hk2;go_wp2_with fail
    refine HC.out.mono ?_;rintro e w6 ⟨rfl, F6, hJ6⟩;have H6 := yH hJ6;clear hJ6 e0 ef0 es0;go_wp2_with fail
    go_roundg (l.length - (k + 1))
    case measure => omega
    case rel => exact ⟨k + 1, L, F6, y.begun.comm, D, P, A, c, rfl, by omega, by simp, rfl, H6.out, rfl, by have := Rp.comm_epoch y.begun; have : y.begun.epoch = y.epoch := rfl; omega, by omega⟩
  ·obtain rfl : k = l.length := by omega
   have hP := hJ.ts.tr.pages hh;have hch := bcheck_any t p r D _ P F y wr hJ.bt hJ.ts (by omega) (by omega);have HJ := yH (yA hch hJ);clear hch hJ hlt hk;go_wp2_with fail
   refine HJ.out.1.mono ?_;rintro e w5 ⟨rfl, hb5, hc5⟩;have hJ5 := HJ.out.2.kept hb5 hc5;have hsa := bsame_any t p r D _ P F y A c w5 hb5 hJ5.ts (by omega) (by omega) hJ5.sl hJ5.af;have H5 := yH (yA hsa hJ5);clear hb5 hc5 hJ5 hsa;go_wp2_with fail
   refine H5.out.1.mono ?_;rintro e w6 ⟨rfl, hb6, hc6⟩;have hJ6 := H5.out.2.kept hb6 hc6;have haw := bawake_any w6 (tab_chg H.out.2.1 hJ6.gr id);have H8 := yH (yA haw hJ6.gr);clear hb6 hc6 hJ6 haw;go_wp2_with fail
   refine H8.out.1.mono ?_;rintro e w9 ⟨rfl, hg9⟩;have H9 := yH (Grew.trans H8.out.2 hg9);clear hg9;go_wp2_with fail
   go_ret
   exact ⟨rfl, H9.out⟩
end
section
open Go.RowKit
def tabI : List Int := tab.map Int.ofNat
def laidName : String := Rows.btreeOrdersRow.named.headD (toString 0)
theorem tab_of_laid {W : World} (h : laidMetH Tryz.prog Rows.btreeOrdersRow.laid W) : TabAt 0 tab W := by
 have h' : laidMet Tryz.prog [(laidName, Lib.tabData .u8 tabI)] W := h;have hg : Tryz.prog.globalNamed laidName = some 0 := by kernel_rfl
 have ht := Lib.tabIs_of_head (t := 190) (e := 5) (n := 64) hg (by kernel_rfl) Tryz.underlying190 Tryz.underlying5 (by kernel_rfl) (by kernel_rfl) h';intro j hj;have := ht.cell hg j (by simpa [tabI] using hj);rw [this];congr 2
 unfold tabI;rw [List.getD_eq_getElem?_getD, List.getElem?_map, List.getD_eq_getElem?_getD]
 cases tab[j]? <;> rfl
noncomputable def laidWorld (os : Os) : World :=
 { World.holding Tryz.prog os ⟨#[], #[], []⟩ with heap := (World.holding Tryz.prog os ⟨#[], #[], []⟩).heap.modify 0 fun
   | .cells _ t frozen => .cells (tabI.map fun z => Value.int .u8 z).toArray t frozen
   | o => o }
theorem laidWorld_met (os : Os) (args : Array Value) : laidMetH Tryz.prog Rows.btreeOrdersRow.laid ((laidWorld os).forCall (fun _ _ => 0) ⟨#[], args, []⟩).memory :=
 laidMetH_of_parts (laidMet_of_run' 8 (by kernel_rfl) (by kernel_rfl)) (by kernel_rfl)
end
section
open Go.ChangeShapes Go.WideShapes Go.ChangeAt Go.RowKit Go.Deep
theorem choose_list {α : Type} (P : Nat → α → Prop) : ∀ (n : Nat), (∀ i, i < n → ∃ x, P i x) → ∃ l : List α, l.length = n ∧ ∀ i x, l[i]? = some x → P i x
 | 0, _ => ⟨[], rfl, fun i x h => by simp at h⟩
 | n + 1, h => by
  obtain ⟨l, hl, hp⟩ := choose_list P n (fun i hi => h i (by omega));obtain ⟨x, hx⟩ := h n (by omega);refine ⟨l ++ [x], by simp [hl], fun i y hy => ?_⟩;by_cases hi : i < l.length
  ·rw [List.getElem?_append_left hi] at hy
   exact hp i y hy
  ·rw [List.getElem?_append_right (by omega)] at hy
   have h0 : i - l.length = 0 := by
    rcases Nat.eq_zero_or_pos (i - l.length) with h0 | h0
    ·exact h0
    ·rw [List.getElem?_eq_none (by simp; omega)] at hy; cases hy
   rw [h0] at hy;simp at hy
   subst hy;obtain rfl : i = n := by omega
   exact hx
theorem wf_bounds {n : Int} (h : (Lit.int .i64 n).wf = true) : -9223372036854775808 ≤ n ∧ n ≤ 9223372036854775807 := by
 simpa [Lit.wf, IntKind.min, IntKind.max, IntKind.signed, IntKind.bits] using h
section
variable {H : Type} {enc : TypeId × Value → H} {P : Program} {w : World} {base : Nat} {spare : Nat → Bool} {held : Bool}
theorem open_elems {t e : TypeId} {fuel s len cap : Nat} {A : Option Addr} {x : DataW H × List MemPlace} (ht : P.underlying t = some (.slice e)) (hC : P.cellsOf e = s) (hs : 0 < s)
  (h : DataW.trod enc P w base spare held fuel t [.slice A len cap] = some x) :
  len ≤ maxLen ∧ (len = 0 ∨ ∃ b off, A = some ⟨b, off, none⟩ ∧ b < w.heap.size ∧ ∀ i, i < len → ∃ (cs : List Value) (n : Nat) (y : DataW H × List MemPlace), cs.length = s ∧ (∀ j, j < s → w.cell? ⟨b, off + (i * s + j), none⟩ = cs[j]?) ∧ DataW.trod enc P w base spare held n e cs = some y) := by
 rcases open_slice ht h with ⟨hcs, _⟩ | ⟨a, len', cap', m, n, D, Pl, hcs, hb, hl, hm, hmm, hx, hi⟩
 ·simp at hcs
  obtain ⟨rfl, rfl, rfl⟩ := hcs;exact ⟨Nat.zero_le _, .inl rfl⟩
 ·simp at hcs
  obtain ⟨rfl, rfl, rfl⟩ := hcs;refine ⟨Nat.le_trans hl hm, ?_⟩;rcases Nat.eq_zero_or_pos len with h0 | h0
  ·exact .inl h0
  right
  have hlm : len ≤ m := by rw [hmm]; split <;> omega
  obtain ⟨b, off, spot⟩ := a
  have cellAt : ∀ i, i < len → ∃ cs' y, cs'.length = s ∧ (∀ j, j < s → w.cell? (Addr.add ⟨b, off, spot⟩ (i * s + j)) = cs'[j]?) ∧ DataW.trod enc P w base spare held n e cs' = some y := by
   intro i hil;obtain ⟨cs', hc, ht'⟩ := hi i (by omega);rw [hC] at hc;obtain ⟨_, hcl, hat⟩ := World.cells?_some hc;refine ⟨cs', _, hcl, fun j hj => ?_, ht'⟩;rw [← hat j hj];congr 1
   unfold Addr.add;by_cases h1 : i * s = 0 <;> by_cases h2 : j = 0 <;> simp [h1, h2, Nat.add_assoc]
  have hspot : spot = none := by
   obtain ⟨cs', y, hcl, hat, _⟩ := cellAt 0 h0;have := hat 0 hs;have h0' : cs'[0]? = some (cs'[0]'(by omega)) := List.getElem?_eq_getElem (by omega);rw [h0'] at this;simpa [Addr.add] using World.cell?_spot this
  subst hspot;refine ⟨b, off, rfl, ?_, fun i hil => ?_⟩
  ·obtain ⟨cs', y, hcl, hat, _⟩ := cellAt 0 h0
   have := hat 0 hs;have h0' : cs'[0]? = some (cs'[0]'(by omega)) := List.getElem?_eq_getElem (by omega);rw [h0'] at this;simpa [Addr.add] using World.block_lt_of_cell? w _ this
  ·obtain ⟨cs', y, hcl, hat, ht'⟩ := cellAt i hil
   refine ⟨cs', n, y, hcl, fun j hj => ?_, ht'⟩;have := hat j hj;rw [Addr.add_lit] at this;exact this
end
end
section
open Go.ChangeShapes Go.WideShapes Go.ChangeAt Go.RowKit
set_option linter.unusedVariables false
theorem Trop.of_trod {H : Type} {enc : TypeId × Value → H} {w : World} {base n : Nat} {spare : Nat → Bool} {held : Bool} {cs : List Value} {y : DataW H × List MemPlace} (hl : cs.length = 3) (h : DataW.trod enc Tryz.prog w base spare held n 37 cs = some y) : ∃ r : Trop, cs = r.vals ∧ r.ok := by
 obtain ⟨xs, n, _, _, _, hlen, hf⟩ := DataW.trod_struct Tryz.underlying37 h
 match cs, hl with
 | [c0, c1, c2], _ =>
  match xs, hlen with
  | [y0, y1, y2], _ =>
   have f0 : DataW.trod enc Tryz.prog w base spare held n 3 (([c0, c1, c2].drop 0).take (Tryz.prog.cellsOf 3)) = some y0 := hf 0 _ rfl;rw [show Tryz.prog.cellsOf 3 = 1 from by kernel_rfl] at f0;have f1 : DataW.trod enc Tryz.prog w base spare held n 3 (([c0, c1, c2].drop 1).take (Tryz.prog.cellsOf 3)) = some y1 := hf 1 _ rfl;rw [show Tryz.prog.cellsOf 3 = 1 from by kernel_rfl] at f1
   have f2 : DataW.trod enc Tryz.prog w base spare held n 3 (([c0, c1, c2].drop 2).take (Tryz.prog.cellsOf 3)) = some y2 := hf 2 _ rfl;rw [show Tryz.prog.cellsOf 3 = 1 from by kernel_rfl] at f2;obtain ⟨n0, e0, -, w0⟩ := DataW.trod_int Tryz.underlying3 f0;simp at e0
   subst e0;obtain ⟨n1, e1, -, w1⟩ := DataW.trod_int Tryz.underlying3 f1;simp at e1
   subst e1;obtain ⟨n2, e2, -, w2⟩ := DataW.trod_int Tryz.underlying3 f2;simp at e2
   subst e2;exact ⟨⟨n0, n1, n2⟩, rfl, (wf_bounds w0).1, (wf_bounds w0).2, (wf_bounds w1).1, (wf_bounds w1).2, (wf_bounds w2).1, (wf_bounds w2).2⟩
theorem Trop.opened {H : Type} {enc : TypeId × Value → H} {w : World} {base fuel len cap : Nat} {spare : Nat → Bool} {held : Bool} {A : Option Addr} {x : DataW H × List MemPlace} (h : DataW.trod enc Tryz.prog w base spare held fuel 35 [.slice A len cap] = some x) :
  ∃ l : List Trop, len = l.length ∧ len ≤ maxLen ∧ Sl w 3 A l.length (l.flatMap Trop.vals) ∧ ∀ r ∈ l, r.ok := by
 obtain ⟨hm, hc⟩ := open_elems Tryz.underlying35 (s := 3) (by kernel_rfl) (by omega) h;rcases hc with rfl | ⟨b, off, rfl, hb, hi⟩
 ·exact ⟨[], rfl, hm, Sl.nil _ _ _, fun r hr => by cases hr⟩
 ·obtain ⟨l, hl, hp⟩ := choose_list (fun i (r : Trop) => r.ok ∧ ∀ j u, r.vals[j]? = some u → w.cell? ⟨b, off + (i * 3 + j), none⟩ = some u) len (fun i hil => by
   obtain ⟨cs, n, y, hcl, hat, ht⟩ := hi i hil;obtain ⟨r, rfl, hok⟩ := Trop.of_trod hcl ht;refine ⟨r, hok, fun j u hu => ?_⟩;have hj : j < 3 := by rw [← hcl]; exact (List.getElem?_eq_some_iff.1 hu).1
   rw [hat j hj, hu])
  refine ⟨l, hl.symm, hm, Trop.sl_mk hb (fun i r hr => (hp i r hr).2), fun r hr => ?_⟩;obtain ⟨i, hi, rfl⟩ := List.getElem_of_mem hr;exact (hp i _ (List.getElem?_eq_getElem hi)).1
theorem full_walk (w : World) (hT : TabAt 0 tab w) (size : Int) (hz : -9223372036854775808 ≤ size ∧ size ≤ 9223372036854775807) (A : Option Addr) (c : Nat) (l : List Trop) (hm : l.length ≤ maxLen) (hs : Sl w 3 A l.length (l.flatMap Trop.vals)) (ok : ∀ r ∈ l, r.ok) :
  Calls Tryz.prog 7 #[.int .i64 size, .slice A l.length c] w fun e w' => e = .returned (.bool true) ∧ Grew w w' := by
 by_cases h : size < 10 ∨ 60 < size ∨ 150 < l.length
 ·exact full_out w hT A c l size hz (by unfold maxLen at hm; omega) h
 ·obtain ⟨sz, rfl⟩ : ∃ sz : Nat, size = sz := ⟨size.toNat, by omega⟩
  exact full_in w hT A c l sz (by omega) (by omega) (by omega) hs ok
namespace lawBtreeFull
theorem own : ownKnob Tryz.prog.godebug = none := by kernel_rfl
theorem laidOut : laidOutB Tryz.prog = true := by kernel_rfl
theorem lifted (os : Os) (started : os.Started) (H : Type) (enc : TypeId × Value → H) :
  ReturnsInHanded {} Tryz.checked os 7 .any (fun w args => (Rows.btreeFullSpec.pre enc Tryz.prog Tryz.f7 [] false w args ∧ laidMetH Tryz.prog Rows.btreeFullRow.laid w) ∧ sizedMet enc Tryz.prog Tryz.f7 (OpenSpec.ofChange Rows.btreeFullSpec) false w args) (Rows.btreeFullSpec.post enc Tryz.prog Tryz.f7 false true false false) := by
 refine returnsInHanded_of_change_and (C := Tryz.checked) (X := fun w _ => laidMetH Tryz.prog Rows.btreeFullRow.laid w) (fun _ _ _ hh h => h.of_heap hh) own started (by kernel_rfl) Tryz.func7
  (ChangeSpec.witness_at (enc := enc) (C := Tryz.checked) (os := os) (X := fun w _ => laidMetH Tryz.prog Rows.btreeFullRow.laid w) false (laidWorld os) #[.int .i64 0, .slice none 0 0] 8 rfl (by kernel_rfl) (by kernel_rfl) (by kernel_rfl) (by kernel_rfl) (by kernel_rfl) (laidWorld_met os _)) ?_
 intro W base args ds gs before hval0 hW _ _ hL0 _;have hL : laidMetH Tryz.prog Rows.btreeFullRow.laid W := hL0;have hT0 := tab_of_laid hL;have hval : ∀ (j : Nat) t v, Tryz.f7.params[j]? = some t → args[j]? = some v → Value.okWide Tryz.prog W .any base t v := hval0;have hW1 := hW;obtain ⟨p, q, hA0, hV, rfl, hfz, hnd⟩ := hW
 have hA : DataW.TrodAll enc Tryz.prog W 0 (fun _ => true) true Tryz.f7.params.toList args.toList ds p := hA0;rw [Tryz.params7] at hA hval;obtain ⟨v0, vs0, d0, ds0, p0, q0, hargs, rfl, rfl, h0, r0⟩ := trodAll_cons hA;obtain ⟨v1, vs1, d1, ds1, p1, q1, rfl, rfl, rfl, h1, r1⟩ := trodAll_cons r0;obtain ⟨rfl, rfl, rfl⟩ := trodAll_nil r1;obtain rfl : args = #[v0, v1] := by cases args; simp_all
 obtain ⟨rfl, rfl⟩ := trodVars_none hV;obtain ⟨a0, rfl, rfl, rfl, w0⟩ := open_int Tryz.underlying3 (hval 0 3 v0 rfl rfl) h0;obtain ⟨A1, n1, c1, rfl⟩ := okWide_slice Tryz.underlying35 (hval 1 35 v1 rfl rfl);have k1 := h1;have lt1 : ∀ x ∈ p1, x.block < W.heap.size := by obtain ⟨m, hm⟩ := k1; exact DataW.trod_lt m _ _ _ hm
 obtain ⟨fu1, hf1⟩ := h1;obtain ⟨l1, rfl, hm1, hs1, ok1⟩ := Trop.opened (by simpa [Value.cells] using hf1);clear hA0 hval0;refine (full_walk W hT0 a0 (wf_bounds w0) A1 c1 l1 hm1 hs1 ok1).mono fun e W1 ⟨he, hg⟩ => ?_;subst he;have bel := hg.below
 exact ⟨_, rfl, _, _, _, [], _, [], hW1, trodAll_mk1 (shut_bool Tryz.underlying4 _), (trodAll_cons_mk (shut_int Tryz.underlying3 w0) (trodAll_cons_mk (Below.trod laidOut (by kernel_rfl) (of_decide_eq_true (by kernel_rfl)) k1 bel lt1) trodAll_mk0)), rfl, bel.frame _, fun h => by cases h⟩
theorem over : Rows.btreeFullRow.holds Tryz.pinned (OpenSpec.ofChange Rows.btreeFullSpec) :=
 OpenClaim.holds_of_wide 7 Tryz.f7 rfl rfl rfl rfl rfl rfl rfl ⟨rfl, rfl, rfl, rfl, rfl⟩ rfl rfl rfl rfl rfl (by kernel_rfl) Tryz.func7 (by kernel_rfl)
  (of_decide_eq_true (by kernel_rfl)) (by unfold Func.isWrapper; first | (rw [if_pos (by decide +kernel)]; kernel_rfl) | (rw [if_neg (by decide +kernel)]; exact ⟨rfl, rfl⟩))
  (fun os started H enc _ => lifted os started H enc)
theorem proved : Rows.BtreeFullCardSaid :=
 Claim7.holds_tied_plain_at .later [] [.data] true Rows.btreeFullCard.stood.harness false over (fun _ h => by cases h) (by kernel_rfl) (fun _ h => by cases h) btreeFull_row_tie rfl ⟨rfl, rfl⟩ (by kernel_rfl) rfl
  (fun f fn hf hfn => by
   obtain rfl : f = 7 := Option.some.inj ((show Tryz.prog.funcNamed Rows.btreeFullRow.func = some 7 by kernel_rfl).symm.trans hf) |>.symm;obtain rfl : fn = Tryz.f7 := (Option.some.inj (Tryz.func7.symm.trans hfn)).symm;refine ⟨by kernel_rfl, fun j t ht => ?_⟩
   have hall : ∀ t ∈ Tryz.f7.params.toList, Tryz.prog.wantsStandIn t = false := by
    rw [Tryz.params7];intro t ht;simp only [List.mem_cons, List.not_mem_nil, or_false] at ht;rcases ht with rfl | rfl <;> kernel_rfl
   exact hall t (by rw [Array.mem_toList_iff]; exact Array.mem_of_getElem? ht))
  (by kernel_rfl)
#print axioms proved
end lawBtreeFull
end
end Go.Proofs.YtpkkcicaeldodaaGreatDoor
