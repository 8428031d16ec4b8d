/- PagerReuses returns true, for every input. It has no condition; the table of math/bits that its row lists is tied to the program. -/
import Derived.Test.YtjlkpeplldckoaaGreatDoorMgPagerReuses3
import Derived.Deep.RegionWith
import Derived.Laws.BytesArg
import Derived.ProofKit
import Derived.OpenShut
import Derived.ShutString
import Derived.ChangeOld
import Derived.Deep.Slices
import Derived.Deep.Fields
import Derived.Test.YtjlkpeplldckoaaGreatDoorRows
import Derived.Test.YtjlkpeplldckoaaGreatDoorTie
import Derived.Test.YtjlkpeplldckoaaGreatDoorCards
import Derived.Lib.LaidTab
import Derived.LaidLaws
import Derived.LaidHandle
import Derived.SevenTiedAt
set_option linter.unusedSimpArgs false
set_option linter.unusedVariables false

/- The pager, as its pages are: Commit, Abort. -/
namespace Go.Proofs.YtjlkpeplldckoaaGreatDoor
open Go.RowKit Go.Maps

def Pk.kept : Pk → Pk
  | .new bs => .old bs
  | c => c
/-- The pages behind a commit. -/
def Rp.comm (x : Rp) : Rp := { x with now := x.now.map Pk.kept, was := none, touched := fun _ => false, epoch := if cntN x.touched 64 = 0 then x.epoch else x.epoch + 1 }
/-- The pages behind a change that was given up. -/
def Rp.abort (x : Rp) : Rp := { x with now := x.was.getD [], was := none, touched := fun _ => false }
theorem pk_kept (D : Dk) (fr : Nat → Bool) (s : Nat) (h : fr s = true → 2 ≤ s) : (pk D fr s).kept = pk D (fun _ => false) s := by
  unfold pk
  by_cases h0 : s = 0
  · rw [if_pos h0, if_pos h0]; rfl
  · rw [if_neg h0, if_neg h0]
    by_cases h1 : s = 1
    · rw [if_pos h1, if_pos h1]; rfl
    · rw [if_neg h1, if_neg h1]
      cases fr s <;> rfl
theorem tabs_fit (row need sz : Nat) : ∀ f k0, tabs row need sz f k0 = k0 ∨ fitsN (tabs row need sz f k0) sz = true
  | 0, k0 => .inl rfl
  | f + 1, k0 => by
    unfold tabs
    split
    · rename_i hc
      rcases tabs_fit row need sz f (k0 + 1) with e | e
      · right; rw [e]; exact hc.1
      · exact .inr e
    · exact .inl rfl
theorem tabN_fit {n sz : Nat} (h : 0 < tabN n sz) : fitsN (tabN n sz) sz = true := by
  rcases tabs_fit (sz / 2) (n - 2) sz 64 0 with e | e
  · unfold tabN at h; rw [e] at h; omega
  · exact e
section
variable {D : Dk} {ep : Nat} {pg tb old lf : List Nat} {fe : List Bool} {fr tc : Nat → Bool}
/-- Nothing was touched: nothing is other. -/
theorem Inv.none_touched (h : Inv D ep pg tb old fe fr lf tc) (hn : ∀ k, tc k = false) : tb = old ∧ (∀ s, fr s = false) ∧ lf = [] := by
  have e : tb = old := List.ext_getElem? fun i => by
    by_cases e : tb[i]? = old[i]?
    · exact e
    · have := h.tcd i e; rw [hn] at this; cases this
  subst e
  refine ⟨rfl, fun s => ?_, ?_⟩
  · cases e : fr s with
    | false => rfl
    | true =>
      obtain ⟨-, -, -, h4, i, hi⟩ := h.frr s e
      exact absurd hi (h4 i)
  · cases lf with
    | nil => rfl
    | cons s t =>
      obtain ⟨-, i, h1, h2⟩ := (h.lf.2 s).1 (List.mem_cons_self)
      exact absurd h1 h2
/-- The change is given up. -/
theorem Inv.abort (h : Inv D ep pg tb old fe fr lf tc) : Inv D ep pg old old (gvn fe fr) (fun _ => false) [] (fun _ => false) := by
  refine ⟨h.sz, ⟨by rw [gvn_len]; exact h.lens.1, h.lens.2.1, h.lens.2.2.2, h.lens.2.2.2⟩, h.rO, h.rP, h.jO, h.jP, h.dis, fun s hs => ?_, fun s e => (by cases e), fun i s hi _ => .inr hi, h.jO, ⟨List.nodup_nil, fun s => ⟨fun e => (by cases e), fun e => by obtain ⟨-, i, h1, h2⟩ := e; exact absurd h1 h2⟩⟩, fun i hi => absurd rfl hi, fun k e => (by cases e), ?_, h.cln, h.dur, h.byt, h.epo⟩
  · rw [gvn_at, h.lens.1]
    simp only [hs, decide_true, Bool.true_and, Bool.or_eq_false_iff]
    constructor
    · rintro ⟨e1, e2⟩
      rcases (h.acct s hs).1 e1 with e | e | e | e
      · exact .inl e
      · exact .inr (.inl e)
      · exact .inr (.inr (.inl e))
      · rw [e2] at e; cases e
    · rintro (e | ⟨k, e⟩ | ⟨i, e⟩ | e)
      · refine ⟨(h.acct s hs).2 (.inl e), h.fr0 e⟩
      · refine ⟨(h.acct s hs).2 (.inr (.inl ⟨k, e⟩)), ?_⟩
        cases q : fr s with
        | false => rfl
        | true => exact absurd e ((h.frr s q).2.2.1 k)
      · refine ⟨(h.acct s hs).2 (.inr (.inr (.inl ⟨i, e⟩))), ?_⟩
        cases q : fr s with
        | false => rfl
        | true => exact absurd e ((h.frr s q).2.2.2.1 i)
      · cases e
  · rw [show cntN (fun _ => false) 64 = 0 from cntN_false fun _ _ => rfl]
    exact Nat.zero_le _
end

section
variable (p : Nat) (F : Nat → Prop) (x : Rp) (w : World)
theorem gp_commit (h : GP w p F x) (ho : x.was ≠ none) (hep : x.epoch < 1099511627776) :
    Calls Tryz.prog 17 #[.pointer (some ⟨p, 0, none⟩)] w fun e' w' => e' = .returned (.int .i64 0) ∧ GPTo w w' p F x.comm := by
  obtain ⟨X, h1, h2, rfl⟩ := h
  obtain ⟨o, hx⟩ := Gp.view_op ho
  have hv := h2.inv
  simp only [Gp.old, Gp.fr, Gp.lf, Gp.tc, hx] at hv
  have htc : X.view.touched = o.touched := by show X.tc = _; simp only [Gp.tc, hx]
  have hfr : X.fr = o.fresh := by simp only [Gp.fr, hx]
  have h64 : ∀ k, o.touched k = true → k < 64 := fun k hk => Nat.lt_of_lt_of_le (hv.tc6 k hk) hv.pg64
  have hnow : X.view.now.map Pk.kept = X.table.map (pk X.D fun _ => false) := by
    show (X.table.map (pk X.D X.fr)).map Pk.kept = _
    rw [List.map_map, hfr]
    exact List.map_congr_left fun s _ => pk_kept X.D o.fresh s fun e => (hv.frr s e).1
  by_cases hc : cntN o.touched 64 = 0
  · have hno : ∀ k, o.touched k = false := fun k => by
      cases e : o.touched k with
      | false => rfl
      | true =>
        have h9 : k ∈ keysL o.touched 64 := mem_keysL.2 ⟨h64 k e, e⟩
        have h8 := keysL_len o.touched 64
        rw [hc] at h8
        rw [List.eq_nil_of_length_eq_zero h8] at h9
        cases h9
    obtain ⟨e1, e2, e3⟩ := hv.none_touched hno
    refine (gcommit_same p F X o w h1 h2 hx hno).mono ?_
    rintro e w1 ⟨rfl, h3⟩
    refine ⟨rfl, h3.gp ⟨?_, h2.row, h2.up⟩ ?_⟩
    · have hgv : (gvn X.free fun s => decide (s ∈ o.left)) = X.free := by rw [e3]; simpa using gvn_none X.free
      show Inv X.D X.epoch X.pages X.table X.table (gvn X.free fun s => decide (s ∈ o.left)) (fun _ => false) [] (fun _ => false)
      rw [hgv]
      have h9 := hv
      rw [← e1, e3, show o.fresh = fun _ => false from funext e2, show o.touched = fun _ => false from funext hno] at h9
      exact h9
    · show Gp.view (X.done o) = Rp.comm X.view
      unfold Rp.comm
      rw [hnow, htc, if_pos hc]
      simp [Gp.view, Gp.done, Gp.fr, Gp.tc]
  · have hne : 0 < (keysL o.touched 64).length := by rw [keysL_len]; omega
    have hpl : 0 < X.pages.length := by
      obtain ⟨k, hk⟩ := List.exists_mem_of_length_pos hne
      have := hv.tc6 k (mem_keysL.1 hk).2
      omega
    have hfit : fitsN X.pages.length X.D.sz = true := by
      rw [hv.lens.2.1] at hpl ⊢
      exact tabN_fit hpl
    refine (gcommit_touched p F X o w h1 h2 hx hne hep hfit).mono ?_
    rintro e w1 ⟨rfl, S, hT, h3⟩
    have hI := TInv.commit hv hT hep hfit
    refine ⟨rfl, h3.gp ⟨hI, ?_, ?_⟩ ?_⟩
    · show X.row = S.D.sz / 2
      rw [hT.n.2.1]; exact h2.row
    · exact ⟨h2.up.1, by show S.D.down = false; rw [hT.n.2.2.1]; exact h2.up.2.1, by show S.D.armed = false; rw [hT.n.2.2.2]; exact h2.up.2.2⟩
    · show Gp.view (X.comm S) = Rp.comm X.view
      unfold Rp.comm
      rw [hnow, htc, if_neg hc]
      have e1 : X.table.map (pk (S.D.rooted (X.epoch + 1) S.pg) fun _ => false) = X.table.map (pk X.D fun _ => false) := List.map_congr_left fun s hs => by
        obtain ⟨i, hi⟩ := List.mem_iff_getElem?.1 hs
        unfold pk
        by_cases h0 : s = 0
        · rw [if_pos h0, if_pos h0]
        · by_cases h1 : s = 1
          · rw [if_neg h0, if_pos h1, if_neg h0, if_pos h1]
          · have hm2 := Nat.mod_lt (X.epoch + 1) (show 0 < 2 by omega)
            rw [if_neg h0, if_neg h1, if_neg h0, if_neg h1, Dk.rooted_rd, if_neg (show ¬ s = (X.epoch + 1) % 2 by omega)]
            rw [hT.rd s fun e => by
              rcases hv.cur i s hi (by omega) with e2 | e2
              · exact e2
              · exact absurd e2 ((hT.frn s e).2.2.2 i)]
      have hn := hT.n
      unfold Gp.view Gp.comm
      simp only [Gp.fr, Gp.tc, Option.map_none]
      rw [e1]
      show Rp.mk S.D.n S.D.sz _ _ _ _ = Rp.mk X.D.n X.D.sz _ _ _ _
      rw [hn.1, hn.2.1]
theorem gp_abort (h : GP w p F x) (ho : x.was ≠ none) :
    Calls Tryz.prog 18 #[.pointer (some ⟨p, 0, none⟩)] w fun e' w' => e' = .returned (.int .i64 0) ∧ GPTo w w' p F x.abort := by
  obtain ⟨X, h1, h2, rfl⟩ := h
  obtain ⟨o, hx⟩ := Gp.view_op ho
  have hv := h2.inv
  simp only [Gp.old, Gp.fr, Gp.lf, Gp.tc, hx] at hv
  refine (gabort_ok p F X o w h1 h2 hx).mono ?_
  rintro e w1 ⟨rfl, h3⟩
  refine ⟨rfl, h3.gp ⟨hv.abort, h2.row, h2.up⟩ ?_⟩
  show Gp.view (X.abort o) = Rp.abort X.view
  unfold Rp.abort
  rw [Gp.view_was hx]
  simp [Gp.view, Gp.abort, Gp.fr, Gp.tc]
end

end Go.Proofs.YtjlkpeplldckoaaGreatDoor

/- The pager: Open on an empty disk. -/
namespace Go.Proofs.YtjlkpeplldckoaaGreatDoor
open Go.RowKit Go.Maps

set_option maxHeartbeats 800000 in
theorem gopen_range (d : Nat) (F : Nat → Prop) (D : Dk) (w : World) (h : DS w d F D) (hr : D.n < 8 ∨ D.sz < 64) :
    Calls Tryz.prog 7 #[.pointer (some ⟨d, 0, none⟩)] w fun e w' => e = .returned (.tuple #[.pointer none, .int .i64 11]) ∧ w = w' := by
  have H := Lib.hid h
  clear h
  by_cases h8 : D.n < 8
  · have a1 : decide ((D.n : Int) < 8) = true := decide_eq_true (by omega)
    clear hr h8
    go_enter Tryz.func7, Tryz.ntmps7
    go_wp2_with (first
      | (go_at_call 21; (refine (dsectors_any d F D _ H.out).mono ?_); rintro e w1 ⟨rfl, rfl⟩)
      | (go_at_call 22; (refine (dsize_any d F D _ H.out).mono ?_); rintro e w1 ⟨rfl, rfl⟩))
    go_ret2
    exact ⟨rfl, rfl⟩
  · have a1 : decide ((D.n : Int) < 8) = false := decide_eq_false (by omega)
    have a2 : decide ((D.sz : Int) < 64) = true := decide_eq_true (by omega)
    clear hr h8
    go_enter Tryz.func7, Tryz.ntmps7
    go_wp2_with (first
      | (go_at_call 21; (refine (dsectors_any d F D _ H.out).mono ?_); rintro e w1 ⟨rfl, rfl⟩)
      | (go_at_call 22; (refine (dsize_any d F D _ H.out).mono ?_); rintro e w1 ⟨rfl, rfl⟩))
    go_ret2
    exact ⟨rfl, rfl⟩

/-- A new pager. -/
def Gp.fresh (D : Dk) : Gp := { D := D, epoch := 0, row := D.sz / 2, pages := List.replicate (tabN D.n D.sz) 0, table := List.replicate (capN D.n D.sz) 0, free := trn (trn (full D.n) 0) 1, op := none, down := false }

/-- A row of noughts, new since w0. -/
structure NewInts (w0 w : World) (g n : Nat) : Prop where
  blk : Blk w g 3 (nv (List.replicate n 0)).toArray
  new : w0.heap.size ≤ g
structure NewPool (w0 w : World) (b n : Nat) (A : Option Addr) (c : Nat) : Prop where
  p : PIn w b (full n) A c
  new : ∀ j, PF b A j → w0.heap.size ≤ j
theorem NewInts.grew {w0 w w' : World} {g n : Nat} (h : NewInts w0 w g n) (hg : Grew w w') : NewInts w0 w' g n := ⟨h.blk.grew hg, h.new⟩
theorem NewPool.grew {w0 w w' : World} {b n c : Nat} {A : Option Addr} (h : NewPool w0 w b n A c) (hg : Grew w w') : NewPool w0 w' b n A c := ⟨h.p.grew hg, h.new⟩
/-- A new pager, as its parts lie. -/
structure OpenIn (w0 w : World) (p d row T C g1 g2 b n : Nat) (A : Option Addr) (c : Nat) : Prop where
  blk : Blk w p 53 #[.pointer (some ⟨d, 0, none⟩), .int .i64 0, .int .i64 row, .slice (some ⟨g1, 0, none⟩) T T, .slice (some ⟨g2, 0, none⟩) C C, .pointer (some ⟨b, 0, none⟩), .pointer none, .bool false]
  t1 : NewInts w0 w g1 T
  t2 : NewInts w0 w g2 C
  ne : g1 ≠ g2
  pool : NewPool w0 w b n A c
  grew : Grew w0 w
  new : w0.heap.size ≤ p
def OpenJ (w0 : World) (d row T C n : Nat) (v : Value) (w : World) : Prop := ∃ p g1 g2 b A c, v = .pointer (some ⟨p, 0, none⟩) ∧ OpenIn w0 w p d row T C g1 g2 b n A c
theorem openJ_mk {w0 w : World} {d row T C g1 g2 b n c : Nat} {A : Option Addr} {r : Int} (hr : r = (row : Int)) (h1 : NewInts w0 w g1 T) (h2 : NewInts w0 w g2 C) (hne : g1 ≠ g2) (hp : NewPool w0 w b n A c) (hg : Grew w0 w) :
    OpenJ w0 d row T C n (.pointer (some ⟨w.heap.size, 0, none⟩)) (w.alloc (.cells #[.pointer (some ⟨d, 0, none⟩), .int .i64 0, .int .i64 r, .slice (some ⟨g1, 0, none⟩) T T, .slice (some ⟨g2, 0, none⟩) C C, .pointer (some ⟨b, 0, none⟩), .pointer none, .bool false] 53)) := by
  subst hr
  exact ⟨_, g1, g2, b, A, c, rfl, Blk.new _ _ _, h1.grew ((Chg.refl _ _).alloc _), h2.grew ((Chg.refl _ _).alloc _), hne, hp.grew ((Chg.refl _ _).alloc _), hg.alloc _, hg.size⟩

/-- The pool of n sectors, when the first k are marked. -/
def mkd (n : Nat) : Nat → List Bool
  | 0 => full n
  | k + 1 => trn (mkd n k) k
theorem mkd_len (n : Nat) : ∀ k, (mkd n k).length = n
  | 0 => full_len n
  | k + 1 => by rw [mkd, trn, List.length_set]; exact mkd_len n k
theorem mkd_at (n : Nat) : ∀ k j, k ≤ n → (mkd n k).getD j false = (decide (k ≤ j) && decide (j < n))
  | 0, j, _ => by rw [mkd, full_at]; simp
  | k + 1, j, hk => by
    rw [mkd, trn, getD_set _ _ _ _ (by rw [mkd_len]; omega), mkd_at n k k (by omega), mkd_at n k j (by omega)]
    by_cases e : j = k
    · subst e; simp; omega
    · rw [if_neg e]
      by_cases h1 : k ≤ j
      · simp [h1, show k + 1 ≤ j by omega]
      · simp [h1, show ¬ k + 1 ≤ j by omega]
theorem mkd_mark (n k : Nat) (hk : k < n) : toL (mkd n k) (k : Int) false = (mkd n (k + 1), 0) := by
  unfold toL
  rw [if_neg (by rw [mkd_len]; omega), Int.toNat_natCast, mkd_at n k k (by omega), if_neg (by simp; omega)]
  rfl
theorem own_new {w : World} {g n : Nat} {t : TypeId} {cs : Array Value} (h : Blk w g t cs) (hn : cs.size = n) (hm : n ≤ maxLen) : w.ownsRow 0 t 1 (.slice (some ⟨g, 0, none⟩) n n) n cs.toList :=
  ⟨by simp [hn], .inr ⟨g, n, cs, rfl, Nat.zero_le _, h, Nat.le_refl _, hm, by simp [hn], by rw [Nat.mul_one, ← hn, ← Array.length_toList, List.take_length]⟩⟩
theorem blk_ne {w : World} {g g' : Nat} {t t' : TypeId} {cs cs' : Array Value} (h : Blk w g t cs) (h' : Blk w g' t' cs') (hne : t ≠ t') : g ≠ g' := by
  rintro rfl
  unfold Blk at h h'
  rw [h] at h'
  injection h' with h'
  injection h' with h1 h2
  exact hne h2
theorem pf_ne {w : World} {b c g : Nat} {x : List Bool} {A : Option Addr} {t : TypeId} {cs : Array Value} (h : PIn w b x A c) (hg : Blk w g t cs) (h1 : t ≠ 74) (h2 : t ≠ 75) : ¬ PF b A g := by
  rintro (rfl | ⟨a, rfl, rfl⟩)
  · have := h.blk
    unfold Blk at this hg
    rw [this] at hg
    cases hg
    exact h1 rfl
  · exact own_blk_ne h.own hg (Ne.symm h2) rfl
/-- A new pager stands. -/
theorem gfresh_mk {w0 w : World} {d p g1 g2 b c : Nat} {A : Option Addr} {F : Nat → Prop} {D : Dk} (hd : DS w d F D) (hF0 : ∀ j, F j → j < w0.heap.size) (h0 : ¬ F 0) (hpos : 0 < w0.heap.size) (hT : TabAt 0 tab w) (hn : D.n ≤ 4096)
    (hb : Blk w p 53 #[.pointer (some ⟨d, 0, none⟩), .int .i64 0, .int .i64 (D.sz / 2 : Nat), .slice (some ⟨g1, 0, none⟩) (tabN D.n D.sz) (tabN D.n D.sz), .slice (some ⟨g2, 0, none⟩) (capN D.n D.sz) (capN D.n D.sz), .pointer (some ⟨b, 0, none⟩), .pointer none, .bool false])
    (h1 : Blk w g1 3 (nv (List.replicate (tabN D.n D.sz) 0)).toArray) (h2 : Blk w g2 3 (nv (List.replicate (capN D.n D.sz) 0)).toArray) (hne : g1 ≠ g2) (hp : PIn w b (mkd D.n 2) A c)
    (n0 : w0.heap.size ≤ p) (n1 : w0.heap.size ≤ g1) (n2 : w0.heap.size ≤ g2) (n3 : ∀ j, PF b A j → w0.heap.size ≤ j) :
    ∃ F', GS w p F' (Gp.fresh D) ∧ ∀ j, F' j → F j ∨ w0.heap.size ≤ j := by
  classical
  have hC : capN D.n D.sz ≤ 4096 := by unfold capN; split <;> omega
  have hT64 : tabN D.n D.sz ≤ 64 := by have := tabs_le (D.sz / 2) (D.n - 2) D.sz 64 0; unfold tabN; omega
  have d1 : p ≠ g1 := blk_ne hb h1 (by decide)
  have d2 : p ≠ g2 := blk_ne hb h2 (by decide)
  have d3 := pf_ne hp hb (by decide) (by decide)
  have d4 := pf_ne hp h1 (by decide) (by decide)
  have d5 := pf_ne hp h2 (by decide) (by decide)
  obtain ⟨L, hL⟩ : ∃ L : Nat → Nat, L = fun j => if j = p then 1 else if j = g1 then 4 else if j = g2 then 5 else if PF b A j then 3 else if F j then 2 else 0 := ⟨_, rfl⟩
  have l1 : L p = 1 := by rw [hL]; simp
  have l4 : L g1 = 4 := by rw [hL]; simp [Ne.symm d1]
  have l5 : L g2 = 5 := by rw [hL]; simp [Ne.symm d2, Ne.symm hne]
  have l3 : ∀ j, PF b A j → L j = 3 := fun j hj => by
    have e1 : j ≠ p := fun e => d3 (e ▸ hj)
    have e2 : j ≠ g1 := fun e => d4 (e ▸ hj)
    have e3 : j ≠ g2 := fun e => d5 (e ▸ hj)
    rw [hL]; simp [e1, e2, e3, hj]
  have l2 : ∀ j, L j = 2 ↔ F j := fun j => by
    have hlt : F j → j < w0.heap.size := hF0 j
    by_cases e1 : j = p
    · subst e1; rw [l1]; exact ⟨fun e => by omega, fun e => by have := hlt e; omega⟩
    by_cases e2 : j = g1
    · subst e2; rw [l4]; exact ⟨fun e => by omega, fun e => by have := hlt e; omega⟩
    by_cases e3 : j = g2
    · subst e3; rw [l5]; exact ⟨fun e => by omega, fun e => by have := hlt e; omega⟩
    by_cases e4 : PF b A j
    · rw [l3 j e4]; exact ⟨fun e => by omega, fun e => by have := hlt e; have := n3 j e4; omega⟩
    · rw [hL]; by_cases e5 : F j <;> simp [e1, e2, e3, e4, e5]
  have l0 : ∀ j, L j ≠ 0 → F j ∨ (w0.heap.size ≤ j ∧ j < w.heap.size) := fun j hj => by
    by_cases e1 : j = p
    · subst e1; exact .inr ⟨n0, hb.lt⟩
    by_cases e2 : j = g1
    · subst e2; exact .inr ⟨n1, h1.lt⟩
    by_cases e3 : j = g2
    · subst e3; exact .inr ⟨n2, h2.lt⟩
    by_cases e4 : PF b A j
    · exact .inr ⟨n3 j e4, hp.lt j e4⟩
    by_cases e5 : F j
    · exact .inl e5
    · rw [hL] at hj; simp [e1, e2, e3, e4, e5] at hj
  refine ⟨fun j => L j ≠ 0, ⟨L, d, b, A, c, _, _, none, ⟨hb, l1, ?_, hp, l3, ?_, fun j hj => ?_, ?_, fun j hj => ?_, rfl, fun j hj => ?_, ?_, hT⟩, fun _ => Iff.rfl⟩, fun j hj => (l0 j hj).imp id fun e => e.1⟩
  · rw [show (fun j => L j = 2) = F from funext fun j => propext (l2 j)]
    exact hd
  · have := own_new (n := tabN D.n D.sz) h1 (by simp [nv]) (by simp only [maxLen]; omega)
    simpa [Gp.fresh] using this
  · have : g1 = j := by simpa [Value.ownBlock] using hj
    rw [← this]; exact l4
  · have := own_new (n := capN D.n D.sz) h2 (by simp [nv]) (by simp only [maxLen]; omega)
    simpa [Gp.fresh] using this
  · have : g2 = j := by simpa [Value.ownBlock] using hj
    rw [← this]; exact l5
  · rcases l0 j hj with e | e
    · exact hd.lt j e
    · exact e.2
  · by_cases e : L 0 = 0
    · exact e
    · rcases l0 0 e with e | e
      · exact absurd e h0
      · omega

set_option maxRecDepth 100000 in
set_option maxHeartbeats 6400000 in
theorem gopen_new (d : Nat) (F : Nat → Prop) (D : Dk) (w : World) (h : DS w d F D) (hd : D.down = false) (hT : TabAt 0 tab w) (h0 : ¬ F 0) (hn : 8 ≤ D.n) (hz : 64 ≤ D.sz) (hp : ∀ i : Nat, i < 2 → partL ((D.rd i).take (D.sz - 8)) = none) (hby : ∀ i : Nat, i < 2 → ∀ x ∈ D.rd i, 0 ≤ x ∧ x ≤ 255) :
    Calls Tryz.prog 7 #[.pointer (some ⟨d, 0, none⟩)] w fun e w' => ∃ p F', e = .returned (.tuple #[.pointer (some ⟨p, 0, none⟩), .int .i64 0]) ∧ GS w' p F' (Gp.fresh D) ∧ Grew w w' ∧ ∀ j, F' j → F j ∨ w.heap.size ≤ j := by
  have hsm := h.sml
  have a1 : decide ((D.n : Int) < 8) = false := decide_eq_false (by omega)
  have a2 : decide ((D.sz : Int) < 64) = false := decide_eq_false (by omega)
  have H := Lib.hid (And.intro h (And.intro hT (And.intro hp hby)))
  clear h hT hp hby
  go_enter Tryz.func7, Tryz.ntmps7
  go_wp2_with (first
    | (go_at_call 21; (refine (dsectors_any d F D _ H.out.1).mono ?_); rintro e w1 ⟨rfl, rfl⟩)
    | (go_at_call 22; (refine (dsize_any d F D _ H.out.1).mono ?_); rintro e w1 ⟨rfl, rfl⟩)
    | (go_at_call 23; (refine (places_any D.n D.sz _ hn hsm.2.1 hz hsm.2.2.2).mono ?_); rintro e w1 ⟨rfl, hg1⟩; have HG1 := Lib.hid hg1; clear hg1))
  have hT := tabs_le (D.sz / 2) (D.n - 2) D.sz 64 0
  have hT64 : tabN D.n D.sz ≤ 64 := by unfold tabN; omega
  have hC : capN D.n D.sz ≤ 4096 := by unfold capN; split <;> omega
  have eq2 : (D.sz : Int).tdiv 2 = ((D.sz / 2 : Nat) : Int) := by simp
  have ew2 : IntKind.i64.wrap ((D.sz / 2 : Nat) : Int) = ((D.sz / 2 : Nat) : Int) := wrap_nat (by omega)
  have ew3 : IntKind.i64.wrap ((D.sz : Int) / 2) = ((D.sz / 2 : Nat) : Int) := by have := ew2; simpa using this
  have HG0 := Lib.hid (show Grew w1 w1.drew from (Chg.refl _ _).drew)
  clear hT
  go_cut [6] (fun v wx => OpenJ w1 d (D.sz / 2) (tabN D.n D.sz) (capN D.n D.sz) D.n v wx)
  case first =>
    refine wp_region_held_drew (S := fun _ => True) (by kernel_rfl) trivial (fun _ => ?_)
    refine wpAnyH_take (i := 0) (v := ?_) rfl (by kernel_rfl) (by kernel_rfl) (by kernel_rfl) (fun _ _ _ h => h) (Or.inl ⟨by rfl, ?_⟩) trivial ?_
    rotate_left
    · (intro w hSw; (try dsimp only at hSw); go_simp) <;> with_reducible rfl
    (try simp only [Act.put, List.setIfInBounds_toArray, List.set_cons_zero, List.set_cons_succ])
    refine wpAnyH_take (i := 1) (v := ?_) rfl (by kernel_rfl) (by kernel_rfl) (by kernel_rfl) (fun _ _ _ h => h) (Or.inl ⟨by rfl, ?_⟩) trivial ?_
    rotate_left
    · (intro w hSw; (try dsimp only at hSw); go_simp) <;> with_reducible rfl
    (try simp only [Act.put, List.setIfInBounds_toArray, List.set_cons_zero, List.set_cons_succ])
    refine wpAnyH_take (i := 4) (v := ?_) rfl (by kernel_rfl) (by kernel_rfl) (by kernel_rfl) (fun _ _ _ h => h) (Or.inl ⟨by rfl, ?_⟩) trivial ?_
    rotate_left
    · (intro w hSw; (try dsimp only at hSw); go_simp) <;> with_reducible rfl
    (try simp only [Act.put, List.setIfInBounds_toArray, List.set_cons_zero, List.set_cons_succ])
    refine wpAnyH_take (i := 6) (v := ?_) rfl (by kernel_rfl) (by kernel_rfl) (by kernel_rfl) (fun _ _ _ h => h) (Or.inl ⟨by rfl, ?_⟩) trivial ?_
    rotate_left
    · (intro w hSw; (try dsimp only at hSw); go_simp) <;> with_reducible rfl
    (try simp only [Act.put, List.setIfInBounds_toArray, List.set_cons_zero, List.set_cons_succ])
    refine wpAnyH_take (i := 8) (v := ?_) rfl (by kernel_rfl) (by kernel_rfl) (by kernel_rfl) (fun _ _ _ h => h) (Or.inl ⟨by rfl, ?_⟩) trivial ?_
    rotate_left
    · (intro w hSw; (try dsimp only at hSw); go_simp) <;> with_reducible rfl
    (try simp only [Act.put, List.setIfInBounds_toArray, List.set_cons_zero, List.set_cons_succ])
    obtain ⟨y5, hr5, hB5, hG5, hs5⟩ := make_ints (tabN D.n D.sz) (w1.drew) (by omega)
    obtain ⟨y7, hr7, hB7, hG7, hs7⟩ := make_ints (capN D.n D.sz) (w1.drew) (by omega)
    refine wpAnyH_ready (rs := [2, 5, 7]) (by kernel_rfl) (by simp) ?_
    refine (AllReadyH.cons rfl (fun K hK => ?_) (AllReadyH.cons rfl (fun K hK => ?_) (AllReadyH.cons rfl (fun K hK => ?_) AllReadyH.nil)))
    · go_simp
      refine (dsize_any d F D _ (H.out.1.grew (Grew.trans HG1.out HG0.out))).mono ?_
      rintro e u2 ⟨rfl, rfl⟩
      refine hK.out _ _ trivial (fun _ => ?_)
      clear hK K
      (try simp only [Act.put, List.setIfInBounds_toArray, List.set_cons_zero, List.set_cons_succ])
      clear hr5 hB5 hG5 hs5 y5 hr7 hB7 hG7 hs7 y7
      refine wpAnyH_take (i := 3) (v := ?_) rfl (by kernel_rfl) (by kernel_rfl) (by kernel_rfl) (fun _ _ _ h => h) (Or.inl ⟨by rfl, ?_⟩) trivial ?_
      rotate_left
      · (intro w hSw; (try dsimp only at hSw); go_simp) <;> with_reducible rfl
      (try simp only [Act.put, List.setIfInBounds_toArray, List.set_cons_zero, List.set_cons_succ])
      obtain ⟨y5, hr5, hB5, hG5, hs5⟩ := make_ints (tabN D.n D.sz) (w1.drew) (by omega)
      obtain ⟨y7, hr7, hB7, hG7, hs7⟩ := make_ints (capN D.n D.sz) (w1.drew) (by omega)
      refine wpAnyH_ready (rs := [5, 7, 9]) (by kernel_rfl) (by simp) ?_
      refine (AllReadyH.cons rfl (fun K hK => ?_) (AllReadyH.cons rfl (fun K hK => ?_) (AllReadyH.cons rfl (fun K hK => ?_) AllReadyH.nil)))
      · go_simp
        refine hK.out _ _ trivial (fun _ => ?_)
        clear hK K
        (try simp only [Act.put, List.setIfInBounds_toArray, List.set_cons_zero, List.set_cons_succ])
        have HQ5 := Lib.hid (show NewInts w1 y5 (w1.drew).heap.size (tabN D.n D.sz) from ⟨hB5, HG0.out.size⟩)
        have HLT5 := Lib.hid (show (w1.drew).heap.size < y5.heap.size from HQ5.out.1.lt)
        have HG5 := Lib.hid (Grew.trans HG0.out hG5)
        clear hr5 hB5 hG5 hs5 hr7 hB7 hG7 hs7 y7
        obtain ⟨y7, hr7, hB7, hG7, hs7⟩ := make_ints (capN D.n D.sz) (y5) (by omega)
        refine wpAnyH_ready (rs := [7, 9]) (by kernel_rfl) (by simp) ?_
        refine (AllReadyH.cons rfl (fun K hK => ?_) (AllReadyH.cons rfl (fun K hK => ?_) AllReadyH.nil))
        · go_simp
          refine hK.out _ _ trivial (fun _ => ?_)
          clear hK K
          (try simp only [Act.put, List.setIfInBounds_toArray, List.set_cons_zero, List.set_cons_succ])
          have HQ5 := Lib.hid (HQ5.out.grew hG7)
          have HQ7 := Lib.hid (show NewInts w1 y7 (y5).heap.size (capN D.n D.sz) from ⟨hB7, HG5.out.size⟩)
          have HD := Lib.hid (show (w1.drew).heap.size ≠ (y5).heap.size from Nat.ne_of_lt HLT5.out)
          have HG7 := Lib.hid (Grew.trans HG5.out hG7)
          clear hr7 hB7 hG7 hs7
          refine wpAnyH_ready (rs := [9]) (by kernel_rfl) (by simp) ?_
          refine (AllReadyH.cons rfl (fun K hK => ?_) AllReadyH.nil)
          · go_simp
            refine (dsectors_any d F D _ (H.out.1.grew (Grew.trans HG1.out HG7.out))).mono ?_
            rintro e u2 ⟨rfl, rfl⟩
            refine hK.out _ _ trivial (fun _ => ?_)
            clear hK K
            (try simp only [Act.put, List.setIfInBounds_toArray, List.set_cons_zero, List.set_cons_succ])
            refine wpAnyH_ready (rs := [10]) (by kernel_rfl) (by simp) ?_
            refine (AllReadyH.cons rfl (fun K hK => ?_) AllReadyH.nil)
            · go_simp
              refine (pnew_any D.n _ (by omega)).mono ?_
              rintro e y10 ⟨A10, c10, rfl, hp10, hg10, hn10⟩
              refine hK.out _ _ trivial (fun _ => ?_)
              clear hK K
              (try simp only [Act.put, List.setIfInBounds_toArray, List.set_cons_zero, List.set_cons_succ])
              have HQ5 := Lib.hid (HQ5.out.grew hg10)
              have HQ7 := Lib.hid (HQ7.out.grew hg10)
              have HQ10 := Lib.hid (show NewPool w1 y10 (y7).heap.size D.n A10 c10 from ⟨hp10, fun j hj => Nat.le_trans HG7.out.size (hn10 j hj)⟩)
              have HG10 := Lib.hid (Grew.trans HG7.out hg10)
              clear hp10 hg10 hn10
              refine wpAnyH_take (i := 11) (v := ?_) rfl (by kernel_rfl) (by kernel_rfl) (by kernel_rfl) (fun _ _ _ h => h) (Or.inl ⟨by rfl, ?_⟩) trivial ?_
              rotate_left
              · (intro w hSw; (try dsimp only at hSw); go_simp) <;> with_reducible rfl
              (try simp only [Act.put, List.setIfInBounds_toArray, List.set_cons_zero, List.set_cons_succ])
              refine wpAnyH_ready (rs := [12]) (by kernel_rfl) (by simp) ?_
              refine AllReadyH.cons rfl (fun K hK => ?_) AllReadyH.nil
              go_simp
              refine hK.out _ _ trivial (fun _ => ?_)
              clear hK K
              (try simp only [Act.put, List.setIfInBounds_toArray, List.set_cons_zero, List.set_cons_succ])
              refine wpAnyH_ready (rs := [13]) (by kernel_rfl) (by simp) ?_
              refine AllReadyH.cons rfl (fun K hK => ?_) AllReadyH.nil
              go_simp
              refine hK.out _ _ trivial (fun _ => ?_)
              clear hK K
              (try simp only [Act.put, List.setIfInBounds_toArray, List.set_cons_zero, List.set_cons_succ])
              refine wpAnyH_done (by kernel_rfl) ?_ _
              go_wp2
              go_meet
              exact openJ_mk (by first | exact ew3 | omega) HQ5.out HQ7.out HD.out HQ10.out HG10.out
        · go_simp
          refine (dsectors_any d F D _ (H.out.1.grew (Grew.trans HG1.out HG5.out))).mono ?_
          rintro e u2 ⟨rfl, rfl⟩
          refine hK.out _ _ trivial (fun _ => ?_)
          clear hK K
          (try simp only [Act.put, List.setIfInBounds_toArray, List.set_cons_zero, List.set_cons_succ])
          clear hr7 hB7 hG7 hs7 y7
          obtain ⟨y7, hr7, hB7, hG7, hs7⟩ := make_ints (capN D.n D.sz) (y5) (by omega)
          refine wpAnyH_ready (rs := [7, 10]) (by kernel_rfl) (by simp) ?_
          refine (AllReadyH.cons rfl (fun K hK => ?_) (AllReadyH.cons rfl (fun K hK => ?_) AllReadyH.nil))
          · go_simp
            refine hK.out _ _ trivial (fun _ => ?_)
            clear hK K
            (try simp only [Act.put, List.setIfInBounds_toArray, List.set_cons_zero, List.set_cons_succ])
            have HQ5 := Lib.hid (HQ5.out.grew hG7)
            have HQ7 := Lib.hid (show NewInts w1 y7 (y5).heap.size (capN D.n D.sz) from ⟨hB7, HG5.out.size⟩)
            have HD := Lib.hid (show (w1.drew).heap.size ≠ (y5).heap.size from Nat.ne_of_lt HLT5.out)
            have HG7 := Lib.hid (Grew.trans HG5.out hG7)
            clear hr7 hB7 hG7 hs7
            refine wpAnyH_ready (rs := [10]) (by kernel_rfl) (by simp) ?_
            refine (AllReadyH.cons rfl (fun K hK => ?_) AllReadyH.nil)
            · go_simp
              refine (pnew_any D.n _ (by omega)).mono ?_
              rintro e y10 ⟨A10, c10, rfl, hp10, hg10, hn10⟩
              refine hK.out _ _ trivial (fun _ => ?_)
              clear hK K
              (try simp only [Act.put, List.setIfInBounds_toArray, List.set_cons_zero, List.set_cons_succ])
              have HQ5 := Lib.hid (HQ5.out.grew hg10)
              have HQ7 := Lib.hid (HQ7.out.grew hg10)
              have HQ10 := Lib.hid (show NewPool w1 y10 (y7).heap.size D.n A10 c10 from ⟨hp10, fun j hj => Nat.le_trans HG7.out.size (hn10 j hj)⟩)
              have HG10 := Lib.hid (Grew.trans HG7.out hg10)
              clear hp10 hg10 hn10
              refine wpAnyH_take (i := 11) (v := ?_) rfl (by kernel_rfl) (by kernel_rfl) (by kernel_rfl) (fun _ _ _ h => h) (Or.inl ⟨by rfl, ?_⟩) trivial ?_
              rotate_left
              · (intro w hSw; (try dsimp only at hSw); go_simp) <;> with_reducible rfl
              (try simp only [Act.put, List.setIfInBounds_toArray, List.set_cons_zero, List.set_cons_succ])
              refine wpAnyH_ready (rs := [12]) (by kernel_rfl) (by simp) ?_
              refine AllReadyH.cons rfl (fun K hK => ?_) AllReadyH.nil
              go_simp
              refine hK.out _ _ trivial (fun _ => ?_)
              clear hK K
              (try simp only [Act.put, List.setIfInBounds_toArray, List.set_cons_zero, List.set_cons_succ])
              refine wpAnyH_ready (rs := [13]) (by kernel_rfl) (by simp) ?_
              refine AllReadyH.cons rfl (fun K hK => ?_) AllReadyH.nil
              go_simp
              refine hK.out _ _ trivial (fun _ => ?_)
              clear hK K
              (try simp only [Act.put, List.setIfInBounds_toArray, List.set_cons_zero, List.set_cons_succ])
              refine wpAnyH_done (by kernel_rfl) ?_ _
              go_wp2
              go_meet
              exact openJ_mk (by first | exact ew3 | omega) HQ5.out HQ7.out HD.out HQ10.out HG10.out
          · go_simp
            refine (pnew_any D.n _ (by omega)).mono ?_
            rintro e y10 ⟨A10, c10, rfl, hp10, hg10, hn10⟩
            refine hK.out _ _ trivial (fun _ => ?_)
            clear hK K
            (try simp only [Act.put, List.setIfInBounds_toArray, List.set_cons_zero, List.set_cons_succ])
            have HQ5 := Lib.hid (HQ5.out.grew hg10)
            have HLT5 := Lib.hid (Nat.lt_of_lt_of_le HLT5.out hg10.size)
            have HQ10 := Lib.hid (show NewPool w1 y10 (y5).heap.size D.n A10 c10 from ⟨hp10, fun j hj => Nat.le_trans HG5.out.size (hn10 j hj)⟩)
            have HG10 := Lib.hid (Grew.trans HG5.out hg10)
            clear hp10 hg10 hn10
            clear hr7 hB7 hG7 hs7 y7
            obtain ⟨y7, hr7, hB7, hG7, hs7⟩ := make_ints (capN D.n D.sz) (y10) (by omega)
            refine wpAnyH_ready (rs := [7]) (by kernel_rfl) (by simp) ?_
            refine (AllReadyH.cons rfl (fun K hK => ?_) AllReadyH.nil)
            · go_simp
              refine hK.out _ _ trivial (fun _ => ?_)
              clear hK K
              (try simp only [Act.put, List.setIfInBounds_toArray, List.set_cons_zero, List.set_cons_succ])
              have HQ5 := Lib.hid (HQ5.out.grew hG7)
              have HQ10 := Lib.hid (HQ10.out.grew hG7)
              have HQ7 := Lib.hid (show NewInts w1 y7 (y10).heap.size (capN D.n D.sz) from ⟨hB7, HG10.out.size⟩)
              have HD := Lib.hid (show (w1.drew).heap.size ≠ (y10).heap.size from Nat.ne_of_lt HLT5.out)
              have HG7 := Lib.hid (Grew.trans HG10.out hG7)
              clear hr7 hB7 hG7 hs7
              refine wpAnyH_take (i := 11) (v := ?_) rfl (by kernel_rfl) (by kernel_rfl) (by kernel_rfl) (fun _ _ _ h => h) (Or.inl ⟨by rfl, ?_⟩) trivial ?_
              rotate_left
              · (intro w hSw; (try dsimp only at hSw); go_simp) <;> with_reducible rfl
              (try simp only [Act.put, List.setIfInBounds_toArray, List.set_cons_zero, List.set_cons_succ])
              refine wpAnyH_ready (rs := [12]) (by kernel_rfl) (by simp) ?_
              refine AllReadyH.cons rfl (fun K hK => ?_) AllReadyH.nil
              go_simp
              refine hK.out _ _ trivial (fun _ => ?_)
              clear hK K
              (try simp only [Act.put, List.setIfInBounds_toArray, List.set_cons_zero, List.set_cons_succ])
              refine wpAnyH_ready (rs := [13]) (by kernel_rfl) (by simp) ?_
              refine AllReadyH.cons rfl (fun K hK => ?_) AllReadyH.nil
              go_simp
              refine hK.out _ _ trivial (fun _ => ?_)
              clear hK K
              (try simp only [Act.put, List.setIfInBounds_toArray, List.set_cons_zero, List.set_cons_succ])
              refine wpAnyH_done (by kernel_rfl) ?_ _
              go_wp2
              go_meet
              exact openJ_mk (by first | exact ew3 | omega) HQ5.out HQ7.out HD.out HQ10.out HG7.out
      · go_simp
        refine hK.out _ _ trivial (fun _ => ?_)
        clear hK K
        (try simp only [Act.put, List.setIfInBounds_toArray, List.set_cons_zero, List.set_cons_succ])
        have HQ7 := Lib.hid (show NewInts w1 y7 (w1.drew).heap.size (capN D.n D.sz) from ⟨hB7, HG0.out.size⟩)
        have HLT7 := Lib.hid (show (w1.drew).heap.size < y7.heap.size from HQ7.out.1.lt)
        have HG7 := Lib.hid (Grew.trans HG0.out hG7)
        clear hr7 hB7 hG7 hs7 hr5 hB5 hG5 hs5 y5
        obtain ⟨y5, hr5, hB5, hG5, hs5⟩ := make_ints (tabN D.n D.sz) (y7) (by omega)
        refine wpAnyH_ready (rs := [5, 9]) (by kernel_rfl) (by simp) ?_
        refine (AllReadyH.cons rfl (fun K hK => ?_) (AllReadyH.cons rfl (fun K hK => ?_) AllReadyH.nil))
        · go_simp
          refine hK.out _ _ trivial (fun _ => ?_)
          clear hK K
          (try simp only [Act.put, List.setIfInBounds_toArray, List.set_cons_zero, List.set_cons_succ])
          have HQ7 := Lib.hid (HQ7.out.grew hG5)
          have HQ5 := Lib.hid (show NewInts w1 y5 (y7).heap.size (tabN D.n D.sz) from ⟨hB5, HG7.out.size⟩)
          have HD := Lib.hid (show (y7).heap.size ≠ (w1.drew).heap.size from Ne.symm (Nat.ne_of_lt HLT7.out))
          have HG5 := Lib.hid (Grew.trans HG7.out hG5)
          clear hr5 hB5 hG5 hs5
          refine wpAnyH_ready (rs := [9]) (by kernel_rfl) (by simp) ?_
          refine (AllReadyH.cons rfl (fun K hK => ?_) AllReadyH.nil)
          · go_simp
            refine (dsectors_any d F D _ (H.out.1.grew (Grew.trans HG1.out HG5.out))).mono ?_
            rintro e u2 ⟨rfl, rfl⟩
            refine hK.out _ _ trivial (fun _ => ?_)
            clear hK K
            (try simp only [Act.put, List.setIfInBounds_toArray, List.set_cons_zero, List.set_cons_succ])
            refine wpAnyH_ready (rs := [10]) (by kernel_rfl) (by simp) ?_
            refine (AllReadyH.cons rfl (fun K hK => ?_) AllReadyH.nil)
            · go_simp
              refine (pnew_any D.n _ (by omega)).mono ?_
              rintro e y10 ⟨A10, c10, rfl, hp10, hg10, hn10⟩
              refine hK.out _ _ trivial (fun _ => ?_)
              clear hK K
              (try simp only [Act.put, List.setIfInBounds_toArray, List.set_cons_zero, List.set_cons_succ])
              have HQ7 := Lib.hid (HQ7.out.grew hg10)
              have HQ5 := Lib.hid (HQ5.out.grew hg10)
              have HQ10 := Lib.hid (show NewPool w1 y10 (y5).heap.size D.n A10 c10 from ⟨hp10, fun j hj => Nat.le_trans HG5.out.size (hn10 j hj)⟩)
              have HG10 := Lib.hid (Grew.trans HG5.out hg10)
              clear hp10 hg10 hn10
              refine wpAnyH_take (i := 11) (v := ?_) rfl (by kernel_rfl) (by kernel_rfl) (by kernel_rfl) (fun _ _ _ h => h) (Or.inl ⟨by rfl, ?_⟩) trivial ?_
              rotate_left
              · (intro w hSw; (try dsimp only at hSw); go_simp) <;> with_reducible rfl
              (try simp only [Act.put, List.setIfInBounds_toArray, List.set_cons_zero, List.set_cons_succ])
              refine wpAnyH_ready (rs := [12]) (by kernel_rfl) (by simp) ?_
              refine AllReadyH.cons rfl (fun K hK => ?_) AllReadyH.nil
              go_simp
              refine hK.out _ _ trivial (fun _ => ?_)
              clear hK K
              (try simp only [Act.put, List.setIfInBounds_toArray, List.set_cons_zero, List.set_cons_succ])
              refine wpAnyH_ready (rs := [13]) (by kernel_rfl) (by simp) ?_
              refine AllReadyH.cons rfl (fun K hK => ?_) AllReadyH.nil
              go_simp
              refine hK.out _ _ trivial (fun _ => ?_)
              clear hK K
              (try simp only [Act.put, List.setIfInBounds_toArray, List.set_cons_zero, List.set_cons_succ])
              refine wpAnyH_done (by kernel_rfl) ?_ _
              go_wp2
              go_meet
              exact openJ_mk (by first | exact ew3 | omega) HQ5.out HQ7.out HD.out HQ10.out HG10.out
        · go_simp
          refine (dsectors_any d F D _ (H.out.1.grew (Grew.trans HG1.out HG7.out))).mono ?_
          rintro e u2 ⟨rfl, rfl⟩
          refine hK.out _ _ trivial (fun _ => ?_)
          clear hK K
          (try simp only [Act.put, List.setIfInBounds_toArray, List.set_cons_zero, List.set_cons_succ])
          clear hr5 hB5 hG5 hs5 y5
          obtain ⟨y5, hr5, hB5, hG5, hs5⟩ := make_ints (tabN D.n D.sz) (y7) (by omega)
          refine wpAnyH_ready (rs := [5, 10]) (by kernel_rfl) (by simp) ?_
          refine (AllReadyH.cons rfl (fun K hK => ?_) (AllReadyH.cons rfl (fun K hK => ?_) AllReadyH.nil))
          · go_simp
            refine hK.out _ _ trivial (fun _ => ?_)
            clear hK K
            (try simp only [Act.put, List.setIfInBounds_toArray, List.set_cons_zero, List.set_cons_succ])
            have HQ7 := Lib.hid (HQ7.out.grew hG5)
            have HQ5 := Lib.hid (show NewInts w1 y5 (y7).heap.size (tabN D.n D.sz) from ⟨hB5, HG7.out.size⟩)
            have HD := Lib.hid (show (y7).heap.size ≠ (w1.drew).heap.size from Ne.symm (Nat.ne_of_lt HLT7.out))
            have HG5 := Lib.hid (Grew.trans HG7.out hG5)
            clear hr5 hB5 hG5 hs5
            refine wpAnyH_ready (rs := [10]) (by kernel_rfl) (by simp) ?_
            refine (AllReadyH.cons rfl (fun K hK => ?_) AllReadyH.nil)
            · go_simp
              refine (pnew_any D.n _ (by omega)).mono ?_
              rintro e y10 ⟨A10, c10, rfl, hp10, hg10, hn10⟩
              refine hK.out _ _ trivial (fun _ => ?_)
              clear hK K
              (try simp only [Act.put, List.setIfInBounds_toArray, List.set_cons_zero, List.set_cons_succ])
              have HQ7 := Lib.hid (HQ7.out.grew hg10)
              have HQ5 := Lib.hid (HQ5.out.grew hg10)
              have HQ10 := Lib.hid (show NewPool w1 y10 (y5).heap.size D.n A10 c10 from ⟨hp10, fun j hj => Nat.le_trans HG5.out.size (hn10 j hj)⟩)
              have HG10 := Lib.hid (Grew.trans HG5.out hg10)
              clear hp10 hg10 hn10
              refine wpAnyH_take (i := 11) (v := ?_) rfl (by kernel_rfl) (by kernel_rfl) (by kernel_rfl) (fun _ _ _ h => h) (Or.inl ⟨by rfl, ?_⟩) trivial ?_
              rotate_left
              · (intro w hSw; (try dsimp only at hSw); go_simp) <;> with_reducible rfl
              (try simp only [Act.put, List.setIfInBounds_toArray, List.set_cons_zero, List.set_cons_succ])
              refine wpAnyH_ready (rs := [12]) (by kernel_rfl) (by simp) ?_
              refine AllReadyH.cons rfl (fun K hK => ?_) AllReadyH.nil
              go_simp
              refine hK.out _ _ trivial (fun _ => ?_)
              clear hK K
              (try simp only [Act.put, List.setIfInBounds_toArray, List.set_cons_zero, List.set_cons_succ])
              refine wpAnyH_ready (rs := [13]) (by kernel_rfl) (by simp) ?_
              refine AllReadyH.cons rfl (fun K hK => ?_) AllReadyH.nil
              go_simp
              refine hK.out _ _ trivial (fun _ => ?_)
              clear hK K
              (try simp only [Act.put, List.setIfInBounds_toArray, List.set_cons_zero, List.set_cons_succ])
              refine wpAnyH_done (by kernel_rfl) ?_ _
              go_wp2
              go_meet
              exact openJ_mk (by first | exact ew3 | omega) HQ5.out HQ7.out HD.out HQ10.out HG10.out
          · go_simp
            refine (pnew_any D.n _ (by omega)).mono ?_
            rintro e y10 ⟨A10, c10, rfl, hp10, hg10, hn10⟩
            refine hK.out _ _ trivial (fun _ => ?_)
            clear hK K
            (try simp only [Act.put, List.setIfInBounds_toArray, List.set_cons_zero, List.set_cons_succ])
            have HQ7 := Lib.hid (HQ7.out.grew hg10)
            have HLT7 := Lib.hid (Nat.lt_of_lt_of_le HLT7.out hg10.size)
            have HQ10 := Lib.hid (show NewPool w1 y10 (y7).heap.size D.n A10 c10 from ⟨hp10, fun j hj => Nat.le_trans HG7.out.size (hn10 j hj)⟩)
            have HG10 := Lib.hid (Grew.trans HG7.out hg10)
            clear hp10 hg10 hn10
            clear hr5 hB5 hG5 hs5 y5
            obtain ⟨y5, hr5, hB5, hG5, hs5⟩ := make_ints (tabN D.n D.sz) (y10) (by omega)
            refine wpAnyH_ready (rs := [5]) (by kernel_rfl) (by simp) ?_
            refine (AllReadyH.cons rfl (fun K hK => ?_) AllReadyH.nil)
            · go_simp
              refine hK.out _ _ trivial (fun _ => ?_)
              clear hK K
              (try simp only [Act.put, List.setIfInBounds_toArray, List.set_cons_zero, List.set_cons_succ])
              have HQ7 := Lib.hid (HQ7.out.grew hG5)
              have HQ10 := Lib.hid (HQ10.out.grew hG5)
              have HQ5 := Lib.hid (show NewInts w1 y5 (y10).heap.size (tabN D.n D.sz) from ⟨hB5, HG10.out.size⟩)
              have HD := Lib.hid (show (y10).heap.size ≠ (w1.drew).heap.size from Ne.symm (Nat.ne_of_lt HLT7.out))
              have HG5 := Lib.hid (Grew.trans HG10.out hG5)
              clear hr5 hB5 hG5 hs5
              refine wpAnyH_take (i := 11) (v := ?_) rfl (by kernel_rfl) (by kernel_rfl) (by kernel_rfl) (fun _ _ _ h => h) (Or.inl ⟨by rfl, ?_⟩) trivial ?_
              rotate_left
              · (intro w hSw; (try dsimp only at hSw); go_simp) <;> with_reducible rfl
              (try simp only [Act.put, List.setIfInBounds_toArray, List.set_cons_zero, List.set_cons_succ])
              refine wpAnyH_ready (rs := [12]) (by kernel_rfl) (by simp) ?_
              refine AllReadyH.cons rfl (fun K hK => ?_) AllReadyH.nil
              go_simp
              refine hK.out _ _ trivial (fun _ => ?_)
              clear hK K
              (try simp only [Act.put, List.setIfInBounds_toArray, List.set_cons_zero, List.set_cons_succ])
              refine wpAnyH_ready (rs := [13]) (by kernel_rfl) (by simp) ?_
              refine AllReadyH.cons rfl (fun K hK => ?_) AllReadyH.nil
              go_simp
              refine hK.out _ _ trivial (fun _ => ?_)
              clear hK K
              (try simp only [Act.put, List.setIfInBounds_toArray, List.set_cons_zero, List.set_cons_succ])
              refine wpAnyH_done (by kernel_rfl) ?_ _
              go_wp2
              go_meet
              exact openJ_mk (by first | exact ew3 | omega) HQ5.out HQ7.out HD.out HQ10.out HG5.out
      · go_simp
        refine (dsectors_any d F D _ (H.out.1.grew (Grew.trans HG1.out HG0.out))).mono ?_
        rintro e u2 ⟨rfl, rfl⟩
        refine hK.out _ _ trivial (fun _ => ?_)
        clear hK K
        (try simp only [Act.put, List.setIfInBounds_toArray, List.set_cons_zero, List.set_cons_succ])
        clear hr5 hB5 hG5 hs5 y5 hr7 hB7 hG7 hs7 y7
        obtain ⟨y5, hr5, hB5, hG5, hs5⟩ := make_ints (tabN D.n D.sz) (w1.drew) (by omega)
        obtain ⟨y7, hr7, hB7, hG7, hs7⟩ := make_ints (capN D.n D.sz) (w1.drew) (by omega)
        refine wpAnyH_ready (rs := [5, 7, 10]) (by kernel_rfl) (by simp) ?_
        refine (AllReadyH.cons rfl (fun K hK => ?_) (AllReadyH.cons rfl (fun K hK => ?_) (AllReadyH.cons rfl (fun K hK => ?_) AllReadyH.nil)))
        · go_simp
          refine hK.out _ _ trivial (fun _ => ?_)
          clear hK K
          (try simp only [Act.put, List.setIfInBounds_toArray, List.set_cons_zero, List.set_cons_succ])
          have HQ5 := Lib.hid (show NewInts w1 y5 (w1.drew).heap.size (tabN D.n D.sz) from ⟨hB5, HG0.out.size⟩)
          have HLT5 := Lib.hid (show (w1.drew).heap.size < y5.heap.size from HQ5.out.1.lt)
          have HG5 := Lib.hid (Grew.trans HG0.out hG5)
          clear hr5 hB5 hG5 hs5 hr7 hB7 hG7 hs7 y7
          obtain ⟨y7, hr7, hB7, hG7, hs7⟩ := make_ints (capN D.n D.sz) (y5) (by omega)
          refine wpAnyH_ready (rs := [7, 10]) (by kernel_rfl) (by simp) ?_
          refine (AllReadyH.cons rfl (fun K hK => ?_) (AllReadyH.cons rfl (fun K hK => ?_) AllReadyH.nil))
          · go_simp
            refine hK.out _ _ trivial (fun _ => ?_)
            clear hK K
            (try simp only [Act.put, List.setIfInBounds_toArray, List.set_cons_zero, List.set_cons_succ])
            have HQ5 := Lib.hid (HQ5.out.grew hG7)
            have HQ7 := Lib.hid (show NewInts w1 y7 (y5).heap.size (capN D.n D.sz) from ⟨hB7, HG5.out.size⟩)
            have HD := Lib.hid (show (w1.drew).heap.size ≠ (y5).heap.size from Nat.ne_of_lt HLT5.out)
            have HG7 := Lib.hid (Grew.trans HG5.out hG7)
            clear hr7 hB7 hG7 hs7
            refine wpAnyH_ready (rs := [10]) (by kernel_rfl) (by simp) ?_
            refine (AllReadyH.cons rfl (fun K hK => ?_) AllReadyH.nil)
            · go_simp
              refine (pnew_any D.n _ (by omega)).mono ?_
              rintro e y10 ⟨A10, c10, rfl, hp10, hg10, hn10⟩
              refine hK.out _ _ trivial (fun _ => ?_)
              clear hK K
              (try simp only [Act.put, List.setIfInBounds_toArray, List.set_cons_zero, List.set_cons_succ])
              have HQ5 := Lib.hid (HQ5.out.grew hg10)
              have HQ7 := Lib.hid (HQ7.out.grew hg10)
              have HQ10 := Lib.hid (show NewPool w1 y10 (y7).heap.size D.n A10 c10 from ⟨hp10, fun j hj => Nat.le_trans HG7.out.size (hn10 j hj)⟩)
              have HG10 := Lib.hid (Grew.trans HG7.out hg10)
              clear hp10 hg10 hn10
              refine wpAnyH_take (i := 11) (v := ?_) rfl (by kernel_rfl) (by kernel_rfl) (by kernel_rfl) (fun _ _ _ h => h) (Or.inl ⟨by rfl, ?_⟩) trivial ?_
              rotate_left
              · (intro w hSw; (try dsimp only at hSw); go_simp) <;> with_reducible rfl
              (try simp only [Act.put, List.setIfInBounds_toArray, List.set_cons_zero, List.set_cons_succ])
              refine wpAnyH_ready (rs := [12]) (by kernel_rfl) (by simp) ?_
              refine AllReadyH.cons rfl (fun K hK => ?_) AllReadyH.nil
              go_simp
              refine hK.out _ _ trivial (fun _ => ?_)
              clear hK K
              (try simp only [Act.put, List.setIfInBounds_toArray, List.set_cons_zero, List.set_cons_succ])
              refine wpAnyH_ready (rs := [13]) (by kernel_rfl) (by simp) ?_
              refine AllReadyH.cons rfl (fun K hK => ?_) AllReadyH.nil
              go_simp
              refine hK.out _ _ trivial (fun _ => ?_)
              clear hK K
              (try simp only [Act.put, List.setIfInBounds_toArray, List.set_cons_zero, List.set_cons_succ])
              refine wpAnyH_done (by kernel_rfl) ?_ _
              go_wp2
              go_meet
              exact openJ_mk (by first | exact ew3 | omega) HQ5.out HQ7.out HD.out HQ10.out HG10.out
          · go_simp
            refine (pnew_any D.n _ (by omega)).mono ?_
            rintro e y10 ⟨A10, c10, rfl, hp10, hg10, hn10⟩
            refine hK.out _ _ trivial (fun _ => ?_)
            clear hK K
            (try simp only [Act.put, List.setIfInBounds_toArray, List.set_cons_zero, List.set_cons_succ])
            have HQ5 := Lib.hid (HQ5.out.grew hg10)
            have HLT5 := Lib.hid (Nat.lt_of_lt_of_le HLT5.out hg10.size)
            have HQ10 := Lib.hid (show NewPool w1 y10 (y5).heap.size D.n A10 c10 from ⟨hp10, fun j hj => Nat.le_trans HG5.out.size (hn10 j hj)⟩)
            have HG10 := Lib.hid (Grew.trans HG5.out hg10)
            clear hp10 hg10 hn10
            clear hr7 hB7 hG7 hs7 y7
            obtain ⟨y7, hr7, hB7, hG7, hs7⟩ := make_ints (capN D.n D.sz) (y10) (by omega)
            refine wpAnyH_ready (rs := [7]) (by kernel_rfl) (by simp) ?_
            refine (AllReadyH.cons rfl (fun K hK => ?_) AllReadyH.nil)
            · go_simp
              refine hK.out _ _ trivial (fun _ => ?_)
              clear hK K
              (try simp only [Act.put, List.setIfInBounds_toArray, List.set_cons_zero, List.set_cons_succ])
              have HQ5 := Lib.hid (HQ5.out.grew hG7)
              have HQ10 := Lib.hid (HQ10.out.grew hG7)
              have HQ7 := Lib.hid (show NewInts w1 y7 (y10).heap.size (capN D.n D.sz) from ⟨hB7, HG10.out.size⟩)
              have HD := Lib.hid (show (w1.drew).heap.size ≠ (y10).heap.size from Nat.ne_of_lt HLT5.out)
              have HG7 := Lib.hid (Grew.trans HG10.out hG7)
              clear hr7 hB7 hG7 hs7
              refine wpAnyH_take (i := 11) (v := ?_) rfl (by kernel_rfl) (by kernel_rfl) (by kernel_rfl) (fun _ _ _ h => h) (Or.inl ⟨by rfl, ?_⟩) trivial ?_
              rotate_left
              · (intro w hSw; (try dsimp only at hSw); go_simp) <;> with_reducible rfl
              (try simp only [Act.put, List.setIfInBounds_toArray, List.set_cons_zero, List.set_cons_succ])
              refine wpAnyH_ready (rs := [12]) (by kernel_rfl) (by simp) ?_
              refine AllReadyH.cons rfl (fun K hK => ?_) AllReadyH.nil
              go_simp
              refine hK.out _ _ trivial (fun _ => ?_)
              clear hK K
              (try simp only [Act.put, List.setIfInBounds_toArray, List.set_cons_zero, List.set_cons_succ])
              refine wpAnyH_ready (rs := [13]) (by kernel_rfl) (by simp) ?_
              refine AllReadyH.cons rfl (fun K hK => ?_) AllReadyH.nil
              go_simp
              refine hK.out _ _ trivial (fun _ => ?_)
              clear hK K
              (try simp only [Act.put, List.setIfInBounds_toArray, List.set_cons_zero, List.set_cons_succ])
              refine wpAnyH_done (by kernel_rfl) ?_ _
              go_wp2
              go_meet
              exact openJ_mk (by first | exact ew3 | omega) HQ5.out HQ7.out HD.out HQ10.out HG7.out
        · go_simp
          refine hK.out _ _ trivial (fun _ => ?_)
          clear hK K
          (try simp only [Act.put, List.setIfInBounds_toArray, List.set_cons_zero, List.set_cons_succ])
          have HQ7 := Lib.hid (show NewInts w1 y7 (w1.drew).heap.size (capN D.n D.sz) from ⟨hB7, HG0.out.size⟩)
          have HLT7 := Lib.hid (show (w1.drew).heap.size < y7.heap.size from HQ7.out.1.lt)
          have HG7 := Lib.hid (Grew.trans HG0.out hG7)
          clear hr7 hB7 hG7 hs7 hr5 hB5 hG5 hs5 y5
          obtain ⟨y5, hr5, hB5, hG5, hs5⟩ := make_ints (tabN D.n D.sz) (y7) (by omega)
          refine wpAnyH_ready (rs := [5, 10]) (by kernel_rfl) (by simp) ?_
          refine (AllReadyH.cons rfl (fun K hK => ?_) (AllReadyH.cons rfl (fun K hK => ?_) AllReadyH.nil))
          · go_simp
            refine hK.out _ _ trivial (fun _ => ?_)
            clear hK K
            (try simp only [Act.put, List.setIfInBounds_toArray, List.set_cons_zero, List.set_cons_succ])
            have HQ7 := Lib.hid (HQ7.out.grew hG5)
            have HQ5 := Lib.hid (show NewInts w1 y5 (y7).heap.size (tabN D.n D.sz) from ⟨hB5, HG7.out.size⟩)
            have HD := Lib.hid (show (y7).heap.size ≠ (w1.drew).heap.size from Ne.symm (Nat.ne_of_lt HLT7.out))
            have HG5 := Lib.hid (Grew.trans HG7.out hG5)
            clear hr5 hB5 hG5 hs5
            refine wpAnyH_ready (rs := [10]) (by kernel_rfl) (by simp) ?_
            refine (AllReadyH.cons rfl (fun K hK => ?_) AllReadyH.nil)
            · go_simp
              refine (pnew_any D.n _ (by omega)).mono ?_
              rintro e y10 ⟨A10, c10, rfl, hp10, hg10, hn10⟩
              refine hK.out _ _ trivial (fun _ => ?_)
              clear hK K
              (try simp only [Act.put, List.setIfInBounds_toArray, List.set_cons_zero, List.set_cons_succ])
              have HQ7 := Lib.hid (HQ7.out.grew hg10)
              have HQ5 := Lib.hid (HQ5.out.grew hg10)
              have HQ10 := Lib.hid (show NewPool w1 y10 (y5).heap.size D.n A10 c10 from ⟨hp10, fun j hj => Nat.le_trans HG5.out.size (hn10 j hj)⟩)
              have HG10 := Lib.hid (Grew.trans HG5.out hg10)
              clear hp10 hg10 hn10
              refine wpAnyH_take (i := 11) (v := ?_) rfl (by kernel_rfl) (by kernel_rfl) (by kernel_rfl) (fun _ _ _ h => h) (Or.inl ⟨by rfl, ?_⟩) trivial ?_
              rotate_left
              · (intro w hSw; (try dsimp only at hSw); go_simp) <;> with_reducible rfl
              (try simp only [Act.put, List.setIfInBounds_toArray, List.set_cons_zero, List.set_cons_succ])
              refine wpAnyH_ready (rs := [12]) (by kernel_rfl) (by simp) ?_
              refine AllReadyH.cons rfl (fun K hK => ?_) AllReadyH.nil
              go_simp
              refine hK.out _ _ trivial (fun _ => ?_)
              clear hK K
              (try simp only [Act.put, List.setIfInBounds_toArray, List.set_cons_zero, List.set_cons_succ])
              refine wpAnyH_ready (rs := [13]) (by kernel_rfl) (by simp) ?_
              refine AllReadyH.cons rfl (fun K hK => ?_) AllReadyH.nil
              go_simp
              refine hK.out _ _ trivial (fun _ => ?_)
              clear hK K
              (try simp only [Act.put, List.setIfInBounds_toArray, List.set_cons_zero, List.set_cons_succ])
              refine wpAnyH_done (by kernel_rfl) ?_ _
              go_wp2
              go_meet
              exact openJ_mk (by first | exact ew3 | omega) HQ5.out HQ7.out HD.out HQ10.out HG10.out
          · go_simp
            refine (pnew_any D.n _ (by omega)).mono ?_
            rintro e y10 ⟨A10, c10, rfl, hp10, hg10, hn10⟩
            refine hK.out _ _ trivial (fun _ => ?_)
            clear hK K
            (try simp only [Act.put, List.setIfInBounds_toArray, List.set_cons_zero, List.set_cons_succ])
            have HQ7 := Lib.hid (HQ7.out.grew hg10)
            have HLT7 := Lib.hid (Nat.lt_of_lt_of_le HLT7.out hg10.size)
            have HQ10 := Lib.hid (show NewPool w1 y10 (y7).heap.size D.n A10 c10 from ⟨hp10, fun j hj => Nat.le_trans HG7.out.size (hn10 j hj)⟩)
            have HG10 := Lib.hid (Grew.trans HG7.out hg10)
            clear hp10 hg10 hn10
            clear hr5 hB5 hG5 hs5 y5
            obtain ⟨y5, hr5, hB5, hG5, hs5⟩ := make_ints (tabN D.n D.sz) (y10) (by omega)
            refine wpAnyH_ready (rs := [5]) (by kernel_rfl) (by simp) ?_
            refine (AllReadyH.cons rfl (fun K hK => ?_) AllReadyH.nil)
            · go_simp
              refine hK.out _ _ trivial (fun _ => ?_)
              clear hK K
              (try simp only [Act.put, List.setIfInBounds_toArray, List.set_cons_zero, List.set_cons_succ])
              have HQ7 := Lib.hid (HQ7.out.grew hG5)
              have HQ10 := Lib.hid (HQ10.out.grew hG5)
              have HQ5 := Lib.hid (show NewInts w1 y5 (y10).heap.size (tabN D.n D.sz) from ⟨hB5, HG10.out.size⟩)
              have HD := Lib.hid (show (y10).heap.size ≠ (w1.drew).heap.size from Ne.symm (Nat.ne_of_lt HLT7.out))
              have HG5 := Lib.hid (Grew.trans HG10.out hG5)
              clear hr5 hB5 hG5 hs5
              refine wpAnyH_take (i := 11) (v := ?_) rfl (by kernel_rfl) (by kernel_rfl) (by kernel_rfl) (fun _ _ _ h => h) (Or.inl ⟨by rfl, ?_⟩) trivial ?_
              rotate_left
              · (intro w hSw; (try dsimp only at hSw); go_simp) <;> with_reducible rfl
              (try simp only [Act.put, List.setIfInBounds_toArray, List.set_cons_zero, List.set_cons_succ])
              refine wpAnyH_ready (rs := [12]) (by kernel_rfl) (by simp) ?_
              refine AllReadyH.cons rfl (fun K hK => ?_) AllReadyH.nil
              go_simp
              refine hK.out _ _ trivial (fun _ => ?_)
              clear hK K
              (try simp only [Act.put, List.setIfInBounds_toArray, List.set_cons_zero, List.set_cons_succ])
              refine wpAnyH_ready (rs := [13]) (by kernel_rfl) (by simp) ?_
              refine AllReadyH.cons rfl (fun K hK => ?_) AllReadyH.nil
              go_simp
              refine hK.out _ _ trivial (fun _ => ?_)
              clear hK K
              (try simp only [Act.put, List.setIfInBounds_toArray, List.set_cons_zero, List.set_cons_succ])
              refine wpAnyH_done (by kernel_rfl) ?_ _
              go_wp2
              go_meet
              exact openJ_mk (by first | exact ew3 | omega) HQ5.out HQ7.out HD.out HQ10.out HG5.out
        · go_simp
          refine (pnew_any D.n _ (by omega)).mono ?_
          rintro e y10 ⟨A10, c10, rfl, hp10, hg10, hn10⟩
          refine hK.out _ _ trivial (fun _ => ?_)
          clear hK K
          (try simp only [Act.put, List.setIfInBounds_toArray, List.set_cons_zero, List.set_cons_succ])
          have HQ10 := Lib.hid (show NewPool w1 y10 (w1.drew).heap.size D.n A10 c10 from ⟨hp10, fun j hj => Nat.le_trans HG0.out.size (hn10 j hj)⟩)
          have HG10 := Lib.hid (Grew.trans HG0.out hg10)
          clear hp10 hg10 hn10
          clear hr5 hB5 hG5 hs5 y5 hr7 hB7 hG7 hs7 y7
          obtain ⟨y5, hr5, hB5, hG5, hs5⟩ := make_ints (tabN D.n D.sz) (y10) (by omega)
          obtain ⟨y7, hr7, hB7, hG7, hs7⟩ := make_ints (capN D.n D.sz) (y10) (by omega)
          refine wpAnyH_ready (rs := [5, 7]) (by kernel_rfl) (by simp) ?_
          refine (AllReadyH.cons rfl (fun K hK => ?_) (AllReadyH.cons rfl (fun K hK => ?_) AllReadyH.nil))
          · go_simp
            refine hK.out _ _ trivial (fun _ => ?_)
            clear hK K
            (try simp only [Act.put, List.setIfInBounds_toArray, List.set_cons_zero, List.set_cons_succ])
            have HQ10 := Lib.hid (HQ10.out.grew hG5)
            have HQ5 := Lib.hid (show NewInts w1 y5 (y10).heap.size (tabN D.n D.sz) from ⟨hB5, HG10.out.size⟩)
            have HLT5 := Lib.hid (show (y10).heap.size < y5.heap.size from HQ5.out.1.lt)
            have HG5 := Lib.hid (Grew.trans HG10.out hG5)
            clear hr5 hB5 hG5 hs5 hr7 hB7 hG7 hs7 y7
            obtain ⟨y7, hr7, hB7, hG7, hs7⟩ := make_ints (capN D.n D.sz) (y5) (by omega)
            refine wpAnyH_ready (rs := [7]) (by kernel_rfl) (by simp) ?_
            refine (AllReadyH.cons rfl (fun K hK => ?_) AllReadyH.nil)
            · go_simp
              refine hK.out _ _ trivial (fun _ => ?_)
              clear hK K
              (try simp only [Act.put, List.setIfInBounds_toArray, List.set_cons_zero, List.set_cons_succ])
              have HQ10 := Lib.hid (HQ10.out.grew hG7)
              have HQ5 := Lib.hid (HQ5.out.grew hG7)
              have HQ7 := Lib.hid (show NewInts w1 y7 (y5).heap.size (capN D.n D.sz) from ⟨hB7, HG5.out.size⟩)
              have HD := Lib.hid (show (y10).heap.size ≠ (y5).heap.size from Nat.ne_of_lt HLT5.out)
              have HG7 := Lib.hid (Grew.trans HG5.out hG7)
              clear hr7 hB7 hG7 hs7
              refine wpAnyH_take (i := 11) (v := ?_) rfl (by kernel_rfl) (by kernel_rfl) (by kernel_rfl) (fun _ _ _ h => h) (Or.inl ⟨by rfl, ?_⟩) trivial ?_
              rotate_left
              · (intro w hSw; (try dsimp only at hSw); go_simp) <;> with_reducible rfl
              (try simp only [Act.put, List.setIfInBounds_toArray, List.set_cons_zero, List.set_cons_succ])
              refine wpAnyH_ready (rs := [12]) (by kernel_rfl) (by simp) ?_
              refine AllReadyH.cons rfl (fun K hK => ?_) AllReadyH.nil
              go_simp
              refine hK.out _ _ trivial (fun _ => ?_)
              clear hK K
              (try simp only [Act.put, List.setIfInBounds_toArray, List.set_cons_zero, List.set_cons_succ])
              refine wpAnyH_ready (rs := [13]) (by kernel_rfl) (by simp) ?_
              refine AllReadyH.cons rfl (fun K hK => ?_) AllReadyH.nil
              go_simp
              refine hK.out _ _ trivial (fun _ => ?_)
              clear hK K
              (try simp only [Act.put, List.setIfInBounds_toArray, List.set_cons_zero, List.set_cons_succ])
              refine wpAnyH_done (by kernel_rfl) ?_ _
              go_wp2
              go_meet
              exact openJ_mk (by first | exact ew3 | omega) HQ5.out HQ7.out HD.out HQ10.out HG7.out
          · go_simp
            refine hK.out _ _ trivial (fun _ => ?_)
            clear hK K
            (try simp only [Act.put, List.setIfInBounds_toArray, List.set_cons_zero, List.set_cons_succ])
            have HQ10 := Lib.hid (HQ10.out.grew hG7)
            have HQ7 := Lib.hid (show NewInts w1 y7 (y10).heap.size (capN D.n D.sz) from ⟨hB7, HG10.out.size⟩)
            have HLT7 := Lib.hid (show (y10).heap.size < y7.heap.size from HQ7.out.1.lt)
            have HG7 := Lib.hid (Grew.trans HG10.out hG7)
            clear hr7 hB7 hG7 hs7 hr5 hB5 hG5 hs5 y5
            obtain ⟨y5, hr5, hB5, hG5, hs5⟩ := make_ints (tabN D.n D.sz) (y7) (by omega)
            refine wpAnyH_ready (rs := [5]) (by kernel_rfl) (by simp) ?_
            refine (AllReadyH.cons rfl (fun K hK => ?_) AllReadyH.nil)
            · go_simp
              refine hK.out _ _ trivial (fun _ => ?_)
              clear hK K
              (try simp only [Act.put, List.setIfInBounds_toArray, List.set_cons_zero, List.set_cons_succ])
              have HQ10 := Lib.hid (HQ10.out.grew hG5)
              have HQ7 := Lib.hid (HQ7.out.grew hG5)
              have HQ5 := Lib.hid (show NewInts w1 y5 (y7).heap.size (tabN D.n D.sz) from ⟨hB5, HG7.out.size⟩)
              have HD := Lib.hid (show (y7).heap.size ≠ (y10).heap.size from Ne.symm (Nat.ne_of_lt HLT7.out))
              have HG5 := Lib.hid (Grew.trans HG7.out hG5)
              clear hr5 hB5 hG5 hs5
              refine wpAnyH_take (i := 11) (v := ?_) rfl (by kernel_rfl) (by kernel_rfl) (by kernel_rfl) (fun _ _ _ h => h) (Or.inl ⟨by rfl, ?_⟩) trivial ?_
              rotate_left
              · (intro w hSw; (try dsimp only at hSw); go_simp) <;> with_reducible rfl
              (try simp only [Act.put, List.setIfInBounds_toArray, List.set_cons_zero, List.set_cons_succ])
              refine wpAnyH_ready (rs := [12]) (by kernel_rfl) (by simp) ?_
              refine AllReadyH.cons rfl (fun K hK => ?_) AllReadyH.nil
              go_simp
              refine hK.out _ _ trivial (fun _ => ?_)
              clear hK K
              (try simp only [Act.put, List.setIfInBounds_toArray, List.set_cons_zero, List.set_cons_succ])
              refine wpAnyH_ready (rs := [13]) (by kernel_rfl) (by simp) ?_
              refine AllReadyH.cons rfl (fun K hK => ?_) AllReadyH.nil
              go_simp
              refine hK.out _ _ trivial (fun _ => ?_)
              clear hK K
              (try simp only [Act.put, List.setIfInBounds_toArray, List.set_cons_zero, List.set_cons_succ])
              refine wpAnyH_done (by kernel_rfl) ?_ _
              go_wp2
              go_meet
              exact openJ_mk (by first | exact ew3 | omega) HQ5.out HQ7.out HD.out HQ10.out HG5.out
    · go_simp
      refine hK.out _ _ trivial (fun _ => ?_)
      clear hK K
      (try simp only [Act.put, List.setIfInBounds_toArray, List.set_cons_zero, List.set_cons_succ])
      have HQ5 := Lib.hid (show NewInts w1 y5 (w1.drew).heap.size (tabN D.n D.sz) from ⟨hB5, HG0.out.size⟩)
      have HLT5 := Lib.hid (show (w1.drew).heap.size < y5.heap.size from HQ5.out.1.lt)
      have HG5 := Lib.hid (Grew.trans HG0.out hG5)
      clear hr5 hB5 hG5 hs5 hr7 hB7 hG7 hs7 y7
      obtain ⟨y7, hr7, hB7, hG7, hs7⟩ := make_ints (capN D.n D.sz) (y5) (by omega)
      refine wpAnyH_ready (rs := [2, 7]) (by kernel_rfl) (by simp) ?_
      refine (AllReadyH.cons rfl (fun K hK => ?_) (AllReadyH.cons rfl (fun K hK => ?_) AllReadyH.nil))
      · go_simp
        refine (dsize_any d F D _ (H.out.1.grew (Grew.trans HG1.out HG5.out))).mono ?_
        rintro e u2 ⟨rfl, rfl⟩
        refine hK.out _ _ trivial (fun _ => ?_)
        clear hK K
        (try simp only [Act.put, List.setIfInBounds_toArray, List.set_cons_zero, List.set_cons_succ])
        clear hr7 hB7 hG7 hs7 y7
        refine wpAnyH_take (i := 3) (v := ?_) rfl (by kernel_rfl) (by kernel_rfl) (by kernel_rfl) (fun _ _ _ h => h) (Or.inl ⟨by rfl, ?_⟩) trivial ?_
        rotate_left
        · (intro w hSw; (try dsimp only at hSw); go_simp) <;> with_reducible rfl
        (try simp only [Act.put, List.setIfInBounds_toArray, List.set_cons_zero, List.set_cons_succ])
        obtain ⟨y7, hr7, hB7, hG7, hs7⟩ := make_ints (capN D.n D.sz) (y5) (by omega)
        refine wpAnyH_ready (rs := [7, 9]) (by kernel_rfl) (by simp) ?_
        refine (AllReadyH.cons rfl (fun K hK => ?_) (AllReadyH.cons rfl (fun K hK => ?_) AllReadyH.nil))
        · go_simp
          refine hK.out _ _ trivial (fun _ => ?_)
          clear hK K
          (try simp only [Act.put, List.setIfInBounds_toArray, List.set_cons_zero, List.set_cons_succ])
          have HQ5 := Lib.hid (HQ5.out.grew hG7)
          have HQ7 := Lib.hid (show NewInts w1 y7 (y5).heap.size (capN D.n D.sz) from ⟨hB7, HG5.out.size⟩)
          have HD := Lib.hid (show (w1.drew).heap.size ≠ (y5).heap.size from Nat.ne_of_lt HLT5.out)
          have HG7 := Lib.hid (Grew.trans HG5.out hG7)
          clear hr7 hB7 hG7 hs7
          refine wpAnyH_ready (rs := [9]) (by kernel_rfl) (by simp) ?_
          refine (AllReadyH.cons rfl (fun K hK => ?_) AllReadyH.nil)
          · go_simp
            refine (dsectors_any d F D _ (H.out.1.grew (Grew.trans HG1.out HG7.out))).mono ?_
            rintro e u2 ⟨rfl, rfl⟩
            refine hK.out _ _ trivial (fun _ => ?_)
            clear hK K
            (try simp only [Act.put, List.setIfInBounds_toArray, List.set_cons_zero, List.set_cons_succ])
            refine wpAnyH_ready (rs := [10]) (by kernel_rfl) (by simp) ?_
            refine (AllReadyH.cons rfl (fun K hK => ?_) AllReadyH.nil)
            · go_simp
              refine (pnew_any D.n _ (by omega)).mono ?_
              rintro e y10 ⟨A10, c10, rfl, hp10, hg10, hn10⟩
              refine hK.out _ _ trivial (fun _ => ?_)
              clear hK K
              (try simp only [Act.put, List.setIfInBounds_toArray, List.set_cons_zero, List.set_cons_succ])
              have HQ5 := Lib.hid (HQ5.out.grew hg10)
              have HQ7 := Lib.hid (HQ7.out.grew hg10)
              have HQ10 := Lib.hid (show NewPool w1 y10 (y7).heap.size D.n A10 c10 from ⟨hp10, fun j hj => Nat.le_trans HG7.out.size (hn10 j hj)⟩)
              have HG10 := Lib.hid (Grew.trans HG7.out hg10)
              clear hp10 hg10 hn10
              refine wpAnyH_take (i := 11) (v := ?_) rfl (by kernel_rfl) (by kernel_rfl) (by kernel_rfl) (fun _ _ _ h => h) (Or.inl ⟨by rfl, ?_⟩) trivial ?_
              rotate_left
              · (intro w hSw; (try dsimp only at hSw); go_simp) <;> with_reducible rfl
              (try simp only [Act.put, List.setIfInBounds_toArray, List.set_cons_zero, List.set_cons_succ])
              refine wpAnyH_ready (rs := [12]) (by kernel_rfl) (by simp) ?_
              refine AllReadyH.cons rfl (fun K hK => ?_) AllReadyH.nil
              go_simp
              refine hK.out _ _ trivial (fun _ => ?_)
              clear hK K
              (try simp only [Act.put, List.setIfInBounds_toArray, List.set_cons_zero, List.set_cons_succ])
              refine wpAnyH_ready (rs := [13]) (by kernel_rfl) (by simp) ?_
              refine AllReadyH.cons rfl (fun K hK => ?_) AllReadyH.nil
              go_simp
              refine hK.out _ _ trivial (fun _ => ?_)
              clear hK K
              (try simp only [Act.put, List.setIfInBounds_toArray, List.set_cons_zero, List.set_cons_succ])
              refine wpAnyH_done (by kernel_rfl) ?_ _
              go_wp2
              go_meet
              exact openJ_mk (by first | exact ew3 | omega) HQ5.out HQ7.out HD.out HQ10.out HG10.out
        · go_simp
          refine (dsectors_any d F D _ (H.out.1.grew (Grew.trans HG1.out HG5.out))).mono ?_
          rintro e u2 ⟨rfl, rfl⟩
          refine hK.out _ _ trivial (fun _ => ?_)
          clear hK K
          (try simp only [Act.put, List.setIfInBounds_toArray, List.set_cons_zero, List.set_cons_succ])
          clear hr7 hB7 hG7 hs7 y7
          obtain ⟨y7, hr7, hB7, hG7, hs7⟩ := make_ints (capN D.n D.sz) (y5) (by omega)
          refine wpAnyH_ready (rs := [7, 10]) (by kernel_rfl) (by simp) ?_
          refine (AllReadyH.cons rfl (fun K hK => ?_) (AllReadyH.cons rfl (fun K hK => ?_) AllReadyH.nil))
          · go_simp
            refine hK.out _ _ trivial (fun _ => ?_)
            clear hK K
            (try simp only [Act.put, List.setIfInBounds_toArray, List.set_cons_zero, List.set_cons_succ])
            have HQ5 := Lib.hid (HQ5.out.grew hG7)
            have HQ7 := Lib.hid (show NewInts w1 y7 (y5).heap.size (capN D.n D.sz) from ⟨hB7, HG5.out.size⟩)
            have HD := Lib.hid (show (w1.drew).heap.size ≠ (y5).heap.size from Nat.ne_of_lt HLT5.out)
            have HG7 := Lib.hid (Grew.trans HG5.out hG7)
            clear hr7 hB7 hG7 hs7
            refine wpAnyH_ready (rs := [10]) (by kernel_rfl) (by simp) ?_
            refine (AllReadyH.cons rfl (fun K hK => ?_) AllReadyH.nil)
            · go_simp
              refine (pnew_any D.n _ (by omega)).mono ?_
              rintro e y10 ⟨A10, c10, rfl, hp10, hg10, hn10⟩
              refine hK.out _ _ trivial (fun _ => ?_)
              clear hK K
              (try simp only [Act.put, List.setIfInBounds_toArray, List.set_cons_zero, List.set_cons_succ])
              have HQ5 := Lib.hid (HQ5.out.grew hg10)
              have HQ7 := Lib.hid (HQ7.out.grew hg10)
              have HQ10 := Lib.hid (show NewPool w1 y10 (y7).heap.size D.n A10 c10 from ⟨hp10, fun j hj => Nat.le_trans HG7.out.size (hn10 j hj)⟩)
              have HG10 := Lib.hid (Grew.trans HG7.out hg10)
              clear hp10 hg10 hn10
              refine wpAnyH_take (i := 11) (v := ?_) rfl (by kernel_rfl) (by kernel_rfl) (by kernel_rfl) (fun _ _ _ h => h) (Or.inl ⟨by rfl, ?_⟩) trivial ?_
              rotate_left
              · (intro w hSw; (try dsimp only at hSw); go_simp) <;> with_reducible rfl
              (try simp only [Act.put, List.setIfInBounds_toArray, List.set_cons_zero, List.set_cons_succ])
              refine wpAnyH_ready (rs := [12]) (by kernel_rfl) (by simp) ?_
              refine AllReadyH.cons rfl (fun K hK => ?_) AllReadyH.nil
              go_simp
              refine hK.out _ _ trivial (fun _ => ?_)
              clear hK K
              (try simp only [Act.put, List.setIfInBounds_toArray, List.set_cons_zero, List.set_cons_succ])
              refine wpAnyH_ready (rs := [13]) (by kernel_rfl) (by simp) ?_
              refine AllReadyH.cons rfl (fun K hK => ?_) AllReadyH.nil
              go_simp
              refine hK.out _ _ trivial (fun _ => ?_)
              clear hK K
              (try simp only [Act.put, List.setIfInBounds_toArray, List.set_cons_zero, List.set_cons_succ])
              refine wpAnyH_done (by kernel_rfl) ?_ _
              go_wp2
              go_meet
              exact openJ_mk (by first | exact ew3 | omega) HQ5.out HQ7.out HD.out HQ10.out HG10.out
          · go_simp
            refine (pnew_any D.n _ (by omega)).mono ?_
            rintro e y10 ⟨A10, c10, rfl, hp10, hg10, hn10⟩
            refine hK.out _ _ trivial (fun _ => ?_)
            clear hK K
            (try simp only [Act.put, List.setIfInBounds_toArray, List.set_cons_zero, List.set_cons_succ])
            have HQ5 := Lib.hid (HQ5.out.grew hg10)
            have HLT5 := Lib.hid (Nat.lt_of_lt_of_le HLT5.out hg10.size)
            have HQ10 := Lib.hid (show NewPool w1 y10 (y5).heap.size D.n A10 c10 from ⟨hp10, fun j hj => Nat.le_trans HG5.out.size (hn10 j hj)⟩)
            have HG10 := Lib.hid (Grew.trans HG5.out hg10)
            clear hp10 hg10 hn10
            clear hr7 hB7 hG7 hs7 y7
            obtain ⟨y7, hr7, hB7, hG7, hs7⟩ := make_ints (capN D.n D.sz) (y10) (by omega)
            refine wpAnyH_ready (rs := [7]) (by kernel_rfl) (by simp) ?_
            refine (AllReadyH.cons rfl (fun K hK => ?_) AllReadyH.nil)
            · go_simp
              refine hK.out _ _ trivial (fun _ => ?_)
              clear hK K
              (try simp only [Act.put, List.setIfInBounds_toArray, List.set_cons_zero, List.set_cons_succ])
              have HQ5 := Lib.hid (HQ5.out.grew hG7)
              have HQ10 := Lib.hid (HQ10.out.grew hG7)
              have HQ7 := Lib.hid (show NewInts w1 y7 (y10).heap.size (capN D.n D.sz) from ⟨hB7, HG10.out.size⟩)
              have HD := Lib.hid (show (w1.drew).heap.size ≠ (y10).heap.size from Nat.ne_of_lt HLT5.out)
              have HG7 := Lib.hid (Grew.trans HG10.out hG7)
              clear hr7 hB7 hG7 hs7
              refine wpAnyH_take (i := 11) (v := ?_) rfl (by kernel_rfl) (by kernel_rfl) (by kernel_rfl) (fun _ _ _ h => h) (Or.inl ⟨by rfl, ?_⟩) trivial ?_
              rotate_left
              · (intro w hSw; (try dsimp only at hSw); go_simp) <;> with_reducible rfl
              (try simp only [Act.put, List.setIfInBounds_toArray, List.set_cons_zero, List.set_cons_succ])
              refine wpAnyH_ready (rs := [12]) (by kernel_rfl) (by simp) ?_
              refine AllReadyH.cons rfl (fun K hK => ?_) AllReadyH.nil
              go_simp
              refine hK.out _ _ trivial (fun _ => ?_)
              clear hK K
              (try simp only [Act.put, List.setIfInBounds_toArray, List.set_cons_zero, List.set_cons_succ])
              refine wpAnyH_ready (rs := [13]) (by kernel_rfl) (by simp) ?_
              refine AllReadyH.cons rfl (fun K hK => ?_) AllReadyH.nil
              go_simp
              refine hK.out _ _ trivial (fun _ => ?_)
              clear hK K
              (try simp only [Act.put, List.setIfInBounds_toArray, List.set_cons_zero, List.set_cons_succ])
              refine wpAnyH_done (by kernel_rfl) ?_ _
              go_wp2
              go_meet
              exact openJ_mk (by first | exact ew3 | omega) HQ5.out HQ7.out HD.out HQ10.out HG7.out
      · go_simp
        refine hK.out _ _ trivial (fun _ => ?_)
        clear hK K
        (try simp only [Act.put, List.setIfInBounds_toArray, List.set_cons_zero, List.set_cons_succ])
        have HQ5 := Lib.hid (HQ5.out.grew hG7)
        have HQ7 := Lib.hid (show NewInts w1 y7 (y5).heap.size (capN D.n D.sz) from ⟨hB7, HG5.out.size⟩)
        have HD := Lib.hid (show (w1.drew).heap.size ≠ (y5).heap.size from Nat.ne_of_lt HLT5.out)
        have HG7 := Lib.hid (Grew.trans HG5.out hG7)
        clear hr7 hB7 hG7 hs7
        refine wpAnyH_ready (rs := [2]) (by kernel_rfl) (by simp) ?_
        refine (AllReadyH.cons rfl (fun K hK => ?_) AllReadyH.nil)
        · go_simp
          refine (dsize_any d F D _ (H.out.1.grew (Grew.trans HG1.out HG7.out))).mono ?_
          rintro e u2 ⟨rfl, rfl⟩
          refine hK.out _ _ trivial (fun _ => ?_)
          clear hK K
          (try simp only [Act.put, List.setIfInBounds_toArray, List.set_cons_zero, List.set_cons_succ])
          refine wpAnyH_take (i := 3) (v := ?_) rfl (by kernel_rfl) (by kernel_rfl) (by kernel_rfl) (fun _ _ _ h => h) (Or.inl ⟨by rfl, ?_⟩) trivial ?_
          rotate_left
          · (intro w hSw; (try dsimp only at hSw); go_simp) <;> with_reducible rfl
          (try simp only [Act.put, List.setIfInBounds_toArray, List.set_cons_zero, List.set_cons_succ])
          refine wpAnyH_ready (rs := [9]) (by kernel_rfl) (by simp) ?_
          refine (AllReadyH.cons rfl (fun K hK => ?_) AllReadyH.nil)
          · go_simp
            refine (dsectors_any d F D _ (H.out.1.grew (Grew.trans HG1.out HG7.out))).mono ?_
            rintro e u2 ⟨rfl, rfl⟩
            refine hK.out _ _ trivial (fun _ => ?_)
            clear hK K
            (try simp only [Act.put, List.setIfInBounds_toArray, List.set_cons_zero, List.set_cons_succ])
            refine wpAnyH_ready (rs := [10]) (by kernel_rfl) (by simp) ?_
            refine (AllReadyH.cons rfl (fun K hK => ?_) AllReadyH.nil)
            · go_simp
              refine (pnew_any D.n _ (by omega)).mono ?_
              rintro e y10 ⟨A10, c10, rfl, hp10, hg10, hn10⟩
              refine hK.out _ _ trivial (fun _ => ?_)
              clear hK K
              (try simp only [Act.put, List.setIfInBounds_toArray, List.set_cons_zero, List.set_cons_succ])
              have HQ5 := Lib.hid (HQ5.out.grew hg10)
              have HQ7 := Lib.hid (HQ7.out.grew hg10)
              have HQ10 := Lib.hid (show NewPool w1 y10 (y7).heap.size D.n A10 c10 from ⟨hp10, fun j hj => Nat.le_trans HG7.out.size (hn10 j hj)⟩)
              have HG10 := Lib.hid (Grew.trans HG7.out hg10)
              clear hp10 hg10 hn10
              refine wpAnyH_take (i := 11) (v := ?_) rfl (by kernel_rfl) (by kernel_rfl) (by kernel_rfl) (fun _ _ _ h => h) (Or.inl ⟨by rfl, ?_⟩) trivial ?_
              rotate_left
              · (intro w hSw; (try dsimp only at hSw); go_simp) <;> with_reducible rfl
              (try simp only [Act.put, List.setIfInBounds_toArray, List.set_cons_zero, List.set_cons_succ])
              refine wpAnyH_ready (rs := [12]) (by kernel_rfl) (by simp) ?_
              refine AllReadyH.cons rfl (fun K hK => ?_) AllReadyH.nil
              go_simp
              refine hK.out _ _ trivial (fun _ => ?_)
              clear hK K
              (try simp only [Act.put, List.setIfInBounds_toArray, List.set_cons_zero, List.set_cons_succ])
              refine wpAnyH_ready (rs := [13]) (by kernel_rfl) (by simp) ?_
              refine AllReadyH.cons rfl (fun K hK => ?_) AllReadyH.nil
              go_simp
              refine hK.out _ _ trivial (fun _ => ?_)
              clear hK K
              (try simp only [Act.put, List.setIfInBounds_toArray, List.set_cons_zero, List.set_cons_succ])
              refine wpAnyH_done (by kernel_rfl) ?_ _
              go_wp2
              go_meet
              exact openJ_mk (by first | exact ew3 | omega) HQ5.out HQ7.out HD.out HQ10.out HG10.out
    · go_simp
      refine hK.out _ _ trivial (fun _ => ?_)
      clear hK K
      (try simp only [Act.put, List.setIfInBounds_toArray, List.set_cons_zero, List.set_cons_succ])
      have HQ7 := Lib.hid (show NewInts w1 y7 (w1.drew).heap.size (capN D.n D.sz) from ⟨hB7, HG0.out.size⟩)
      have HLT7 := Lib.hid (show (w1.drew).heap.size < y7.heap.size from HQ7.out.1.lt)
      have HG7 := Lib.hid (Grew.trans HG0.out hG7)
      clear hr7 hB7 hG7 hs7 hr5 hB5 hG5 hs5 y5
      obtain ⟨y5, hr5, hB5, hG5, hs5⟩ := make_ints (tabN D.n D.sz) (y7) (by omega)
      refine wpAnyH_ready (rs := [2, 5]) (by kernel_rfl) (by simp) ?_
      refine (AllReadyH.cons rfl (fun K hK => ?_) (AllReadyH.cons rfl (fun K hK => ?_) AllReadyH.nil))
      · go_simp
        refine (dsize_any d F D _ (H.out.1.grew (Grew.trans HG1.out HG7.out))).mono ?_
        rintro e u2 ⟨rfl, rfl⟩
        refine hK.out _ _ trivial (fun _ => ?_)
        clear hK K
        (try simp only [Act.put, List.setIfInBounds_toArray, List.set_cons_zero, List.set_cons_succ])
        clear hr5 hB5 hG5 hs5 y5
        refine wpAnyH_take (i := 3) (v := ?_) rfl (by kernel_rfl) (by kernel_rfl) (by kernel_rfl) (fun _ _ _ h => h) (Or.inl ⟨by rfl, ?_⟩) trivial ?_
        rotate_left
        · (intro w hSw; (try dsimp only at hSw); go_simp) <;> with_reducible rfl
        (try simp only [Act.put, List.setIfInBounds_toArray, List.set_cons_zero, List.set_cons_succ])
        obtain ⟨y5, hr5, hB5, hG5, hs5⟩ := make_ints (tabN D.n D.sz) (y7) (by omega)
        refine wpAnyH_ready (rs := [5, 9]) (by kernel_rfl) (by simp) ?_
        refine (AllReadyH.cons rfl (fun K hK => ?_) (AllReadyH.cons rfl (fun K hK => ?_) AllReadyH.nil))
        · go_simp
          refine hK.out _ _ trivial (fun _ => ?_)
          clear hK K
          (try simp only [Act.put, List.setIfInBounds_toArray, List.set_cons_zero, List.set_cons_succ])
          have HQ7 := Lib.hid (HQ7.out.grew hG5)
          have HQ5 := Lib.hid (show NewInts w1 y5 (y7).heap.size (tabN D.n D.sz) from ⟨hB5, HG7.out.size⟩)
          have HD := Lib.hid (show (y7).heap.size ≠ (w1.drew).heap.size from Ne.symm (Nat.ne_of_lt HLT7.out))
          have HG5 := Lib.hid (Grew.trans HG7.out hG5)
          clear hr5 hB5 hG5 hs5
          refine wpAnyH_ready (rs := [9]) (by kernel_rfl) (by simp) ?_
          refine (AllReadyH.cons rfl (fun K hK => ?_) AllReadyH.nil)
          · go_simp
            refine (dsectors_any d F D _ (H.out.1.grew (Grew.trans HG1.out HG5.out))).mono ?_
            rintro e u2 ⟨rfl, rfl⟩
            refine hK.out _ _ trivial (fun _ => ?_)
            clear hK K
            (try simp only [Act.put, List.setIfInBounds_toArray, List.set_cons_zero, List.set_cons_succ])
            refine wpAnyH_ready (rs := [10]) (by kernel_rfl) (by simp) ?_
            refine (AllReadyH.cons rfl (fun K hK => ?_) AllReadyH.nil)
            · go_simp
              refine (pnew_any D.n _ (by omega)).mono ?_
              rintro e y10 ⟨A10, c10, rfl, hp10, hg10, hn10⟩
              refine hK.out _ _ trivial (fun _ => ?_)
              clear hK K
              (try simp only [Act.put, List.setIfInBounds_toArray, List.set_cons_zero, List.set_cons_succ])
              have HQ7 := Lib.hid (HQ7.out.grew hg10)
              have HQ5 := Lib.hid (HQ5.out.grew hg10)
              have HQ10 := Lib.hid (show NewPool w1 y10 (y5).heap.size D.n A10 c10 from ⟨hp10, fun j hj => Nat.le_trans HG5.out.size (hn10 j hj)⟩)
              have HG10 := Lib.hid (Grew.trans HG5.out hg10)
              clear hp10 hg10 hn10
              refine wpAnyH_take (i := 11) (v := ?_) rfl (by kernel_rfl) (by kernel_rfl) (by kernel_rfl) (fun _ _ _ h => h) (Or.inl ⟨by rfl, ?_⟩) trivial ?_
              rotate_left
              · (intro w hSw; (try dsimp only at hSw); go_simp) <;> with_reducible rfl
              (try simp only [Act.put, List.setIfInBounds_toArray, List.set_cons_zero, List.set_cons_succ])
              refine wpAnyH_ready (rs := [12]) (by kernel_rfl) (by simp) ?_
              refine AllReadyH.cons rfl (fun K hK => ?_) AllReadyH.nil
              go_simp
              refine hK.out _ _ trivial (fun _ => ?_)
              clear hK K
              (try simp only [Act.put, List.setIfInBounds_toArray, List.set_cons_zero, List.set_cons_succ])
              refine wpAnyH_ready (rs := [13]) (by kernel_rfl) (by simp) ?_
              refine AllReadyH.cons rfl (fun K hK => ?_) AllReadyH.nil
              go_simp
              refine hK.out _ _ trivial (fun _ => ?_)
              clear hK K
              (try simp only [Act.put, List.setIfInBounds_toArray, List.set_cons_zero, List.set_cons_succ])
              refine wpAnyH_done (by kernel_rfl) ?_ _
              go_wp2
              go_meet
              exact openJ_mk (by first | exact ew3 | omega) HQ5.out HQ7.out HD.out HQ10.out HG10.out
        · go_simp
          refine (dsectors_any d F D _ (H.out.1.grew (Grew.trans HG1.out HG7.out))).mono ?_
          rintro e u2 ⟨rfl, rfl⟩
          refine hK.out _ _ trivial (fun _ => ?_)
          clear hK K
          (try simp only [Act.put, List.setIfInBounds_toArray, List.set_cons_zero, List.set_cons_succ])
          clear hr5 hB5 hG5 hs5 y5
          obtain ⟨y5, hr5, hB5, hG5, hs5⟩ := make_ints (tabN D.n D.sz) (y7) (by omega)
          refine wpAnyH_ready (rs := [5, 10]) (by kernel_rfl) (by simp) ?_
          refine (AllReadyH.cons rfl (fun K hK => ?_) (AllReadyH.cons rfl (fun K hK => ?_) AllReadyH.nil))
          · go_simp
            refine hK.out _ _ trivial (fun _ => ?_)
            clear hK K
            (try simp only [Act.put, List.setIfInBounds_toArray, List.set_cons_zero, List.set_cons_succ])
            have HQ7 := Lib.hid (HQ7.out.grew hG5)
            have HQ5 := Lib.hid (show NewInts w1 y5 (y7).heap.size (tabN D.n D.sz) from ⟨hB5, HG7.out.size⟩)
            have HD := Lib.hid (show (y7).heap.size ≠ (w1.drew).heap.size from Ne.symm (Nat.ne_of_lt HLT7.out))
            have HG5 := Lib.hid (Grew.trans HG7.out hG5)
            clear hr5 hB5 hG5 hs5
            refine wpAnyH_ready (rs := [10]) (by kernel_rfl) (by simp) ?_
            refine (AllReadyH.cons rfl (fun K hK => ?_) AllReadyH.nil)
            · go_simp
              refine (pnew_any D.n _ (by omega)).mono ?_
              rintro e y10 ⟨A10, c10, rfl, hp10, hg10, hn10⟩
              refine hK.out _ _ trivial (fun _ => ?_)
              clear hK K
              (try simp only [Act.put, List.setIfInBounds_toArray, List.set_cons_zero, List.set_cons_succ])
              have HQ7 := Lib.hid (HQ7.out.grew hg10)
              have HQ5 := Lib.hid (HQ5.out.grew hg10)
              have HQ10 := Lib.hid (show NewPool w1 y10 (y5).heap.size D.n A10 c10 from ⟨hp10, fun j hj => Nat.le_trans HG5.out.size (hn10 j hj)⟩)
              have HG10 := Lib.hid (Grew.trans HG5.out hg10)
              clear hp10 hg10 hn10
              refine wpAnyH_take (i := 11) (v := ?_) rfl (by kernel_rfl) (by kernel_rfl) (by kernel_rfl) (fun _ _ _ h => h) (Or.inl ⟨by rfl, ?_⟩) trivial ?_
              rotate_left
              · (intro w hSw; (try dsimp only at hSw); go_simp) <;> with_reducible rfl
              (try simp only [Act.put, List.setIfInBounds_toArray, List.set_cons_zero, List.set_cons_succ])
              refine wpAnyH_ready (rs := [12]) (by kernel_rfl) (by simp) ?_
              refine AllReadyH.cons rfl (fun K hK => ?_) AllReadyH.nil
              go_simp
              refine hK.out _ _ trivial (fun _ => ?_)
              clear hK K
              (try simp only [Act.put, List.setIfInBounds_toArray, List.set_cons_zero, List.set_cons_succ])
              refine wpAnyH_ready (rs := [13]) (by kernel_rfl) (by simp) ?_
              refine AllReadyH.cons rfl (fun K hK => ?_) AllReadyH.nil
              go_simp
              refine hK.out _ _ trivial (fun _ => ?_)
              clear hK K
              (try simp only [Act.put, List.setIfInBounds_toArray, List.set_cons_zero, List.set_cons_succ])
              refine wpAnyH_done (by kernel_rfl) ?_ _
              go_wp2
              go_meet
              exact openJ_mk (by first | exact ew3 | omega) HQ5.out HQ7.out HD.out HQ10.out HG10.out
          · go_simp
            refine (pnew_any D.n _ (by omega)).mono ?_
            rintro e y10 ⟨A10, c10, rfl, hp10, hg10, hn10⟩
            refine hK.out _ _ trivial (fun _ => ?_)
            clear hK K
            (try simp only [Act.put, List.setIfInBounds_toArray, List.set_cons_zero, List.set_cons_succ])
            have HQ7 := Lib.hid (HQ7.out.grew hg10)
            have HLT7 := Lib.hid (Nat.lt_of_lt_of_le HLT7.out hg10.size)
            have HQ10 := Lib.hid (show NewPool w1 y10 (y7).heap.size D.n A10 c10 from ⟨hp10, fun j hj => Nat.le_trans HG7.out.size (hn10 j hj)⟩)
            have HG10 := Lib.hid (Grew.trans HG7.out hg10)
            clear hp10 hg10 hn10
            clear hr5 hB5 hG5 hs5 y5
            obtain ⟨y5, hr5, hB5, hG5, hs5⟩ := make_ints (tabN D.n D.sz) (y10) (by omega)
            refine wpAnyH_ready (rs := [5]) (by kernel_rfl) (by simp) ?_
            refine (AllReadyH.cons rfl (fun K hK => ?_) AllReadyH.nil)
            · go_simp
              refine hK.out _ _ trivial (fun _ => ?_)
              clear hK K
              (try simp only [Act.put, List.setIfInBounds_toArray, List.set_cons_zero, List.set_cons_succ])
              have HQ7 := Lib.hid (HQ7.out.grew hG5)
              have HQ10 := Lib.hid (HQ10.out.grew hG5)
              have HQ5 := Lib.hid (show NewInts w1 y5 (y10).heap.size (tabN D.n D.sz) from ⟨hB5, HG10.out.size⟩)
              have HD := Lib.hid (show (y10).heap.size ≠ (w1.drew).heap.size from Ne.symm (Nat.ne_of_lt HLT7.out))
              have HG5 := Lib.hid (Grew.trans HG10.out hG5)
              clear hr5 hB5 hG5 hs5
              refine wpAnyH_take (i := 11) (v := ?_) rfl (by kernel_rfl) (by kernel_rfl) (by kernel_rfl) (fun _ _ _ h => h) (Or.inl ⟨by rfl, ?_⟩) trivial ?_
              rotate_left
              · (intro w hSw; (try dsimp only at hSw); go_simp) <;> with_reducible rfl
              (try simp only [Act.put, List.setIfInBounds_toArray, List.set_cons_zero, List.set_cons_succ])
              refine wpAnyH_ready (rs := [12]) (by kernel_rfl) (by simp) ?_
              refine AllReadyH.cons rfl (fun K hK => ?_) AllReadyH.nil
              go_simp
              refine hK.out _ _ trivial (fun _ => ?_)
              clear hK K
              (try simp only [Act.put, List.setIfInBounds_toArray, List.set_cons_zero, List.set_cons_succ])
              refine wpAnyH_ready (rs := [13]) (by kernel_rfl) (by simp) ?_
              refine AllReadyH.cons rfl (fun K hK => ?_) AllReadyH.nil
              go_simp
              refine hK.out _ _ trivial (fun _ => ?_)
              clear hK K
              (try simp only [Act.put, List.setIfInBounds_toArray, List.set_cons_zero, List.set_cons_succ])
              refine wpAnyH_done (by kernel_rfl) ?_ _
              go_wp2
              go_meet
              exact openJ_mk (by first | exact ew3 | omega) HQ5.out HQ7.out HD.out HQ10.out HG5.out
      · go_simp
        refine hK.out _ _ trivial (fun _ => ?_)
        clear hK K
        (try simp only [Act.put, List.setIfInBounds_toArray, List.set_cons_zero, List.set_cons_succ])
        have HQ7 := Lib.hid (HQ7.out.grew hG5)
        have HQ5 := Lib.hid (show NewInts w1 y5 (y7).heap.size (tabN D.n D.sz) from ⟨hB5, HG7.out.size⟩)
        have HD := Lib.hid (show (y7).heap.size ≠ (w1.drew).heap.size from Ne.symm (Nat.ne_of_lt HLT7.out))
        have HG5 := Lib.hid (Grew.trans HG7.out hG5)
        clear hr5 hB5 hG5 hs5
        refine wpAnyH_ready (rs := [2]) (by kernel_rfl) (by simp) ?_
        refine (AllReadyH.cons rfl (fun K hK => ?_) AllReadyH.nil)
        · go_simp
          refine (dsize_any d F D _ (H.out.1.grew (Grew.trans HG1.out HG5.out))).mono ?_
          rintro e u2 ⟨rfl, rfl⟩
          refine hK.out _ _ trivial (fun _ => ?_)
          clear hK K
          (try simp only [Act.put, List.setIfInBounds_toArray, List.set_cons_zero, List.set_cons_succ])
          refine wpAnyH_take (i := 3) (v := ?_) rfl (by kernel_rfl) (by kernel_rfl) (by kernel_rfl) (fun _ _ _ h => h) (Or.inl ⟨by rfl, ?_⟩) trivial ?_
          rotate_left
          · (intro w hSw; (try dsimp only at hSw); go_simp) <;> with_reducible rfl
          (try simp only [Act.put, List.setIfInBounds_toArray, List.set_cons_zero, List.set_cons_succ])
          refine wpAnyH_ready (rs := [9]) (by kernel_rfl) (by simp) ?_
          refine (AllReadyH.cons rfl (fun K hK => ?_) AllReadyH.nil)
          · go_simp
            refine (dsectors_any d F D _ (H.out.1.grew (Grew.trans HG1.out HG5.out))).mono ?_
            rintro e u2 ⟨rfl, rfl⟩
            refine hK.out _ _ trivial (fun _ => ?_)
            clear hK K
            (try simp only [Act.put, List.setIfInBounds_toArray, List.set_cons_zero, List.set_cons_succ])
            refine wpAnyH_ready (rs := [10]) (by kernel_rfl) (by simp) ?_
            refine (AllReadyH.cons rfl (fun K hK => ?_) AllReadyH.nil)
            · go_simp
              refine (pnew_any D.n _ (by omega)).mono ?_
              rintro e y10 ⟨A10, c10, rfl, hp10, hg10, hn10⟩
              refine hK.out _ _ trivial (fun _ => ?_)
              clear hK K
              (try simp only [Act.put, List.setIfInBounds_toArray, List.set_cons_zero, List.set_cons_succ])
              have HQ7 := Lib.hid (HQ7.out.grew hg10)
              have HQ5 := Lib.hid (HQ5.out.grew hg10)
              have HQ10 := Lib.hid (show NewPool w1 y10 (y5).heap.size D.n A10 c10 from ⟨hp10, fun j hj => Nat.le_trans HG5.out.size (hn10 j hj)⟩)
              have HG10 := Lib.hid (Grew.trans HG5.out hg10)
              clear hp10 hg10 hn10
              refine wpAnyH_take (i := 11) (v := ?_) rfl (by kernel_rfl) (by kernel_rfl) (by kernel_rfl) (fun _ _ _ h => h) (Or.inl ⟨by rfl, ?_⟩) trivial ?_
              rotate_left
              · (intro w hSw; (try dsimp only at hSw); go_simp) <;> with_reducible rfl
              (try simp only [Act.put, List.setIfInBounds_toArray, List.set_cons_zero, List.set_cons_succ])
              refine wpAnyH_ready (rs := [12]) (by kernel_rfl) (by simp) ?_
              refine AllReadyH.cons rfl (fun K hK => ?_) AllReadyH.nil
              go_simp
              refine hK.out _ _ trivial (fun _ => ?_)
              clear hK K
              (try simp only [Act.put, List.setIfInBounds_toArray, List.set_cons_zero, List.set_cons_succ])
              refine wpAnyH_ready (rs := [13]) (by kernel_rfl) (by simp) ?_
              refine AllReadyH.cons rfl (fun K hK => ?_) AllReadyH.nil
              go_simp
              refine hK.out _ _ trivial (fun _ => ?_)
              clear hK K
              (try simp only [Act.put, List.setIfInBounds_toArray, List.set_cons_zero, List.set_cons_succ])
              refine wpAnyH_done (by kernel_rfl) ?_ _
              go_wp2
              go_meet
              exact openJ_mk (by first | exact ew3 | omega) HQ5.out HQ7.out HD.out HQ10.out HG10.out
  case rest =>
    obtain ⟨p, g1, g2, b, A, c, rfl, hO⟩ := hcut
    have HO := Lib.hid hO
    obtain ⟨c0, f0, s0⟩ := hO.blk.facts
    clear hO
    have hdF : ∀ u, Chg (PF b A) wc u → DS u d F D := fun u hu => ((H.out.1.grew HG1.out).grew HO.out.grew).chg hu fun j hj e => by
      have h1 := H.out.1.lt j hj
      have h2 := HO.out.pool.new j e
      have h3 := HG1.out.size
      omega
    have hkeep : ∀ u, Chg (PF b A) wc u → Blk u p 53 #[.pointer (some ⟨d, 0, none⟩), .int .i64 0, .int .i64 (D.sz / 2 : Nat), .slice (some ⟨g1, 0, none⟩) (tabN D.n D.sz) (tabN D.n D.sz), .slice (some ⟨g2, 0, none⟩) (capN D.n D.sz) (capN D.n D.sz), .pointer (some ⟨b, 0, none⟩), .pointer none, .bool false] := fun u hu =>
      HO.out.blk.chg hu (pf_ne HO.out.pool.p HO.out.blk (by decide) (by decide))
    have HD := Lib.hid hdF
    have HK := Lib.hid hkeep
    have HX := Lib.hid (show D.n ≤ 65536 by omega)
    clear hdF hkeep
    go_wp2
    go_loopw [41] (fun i wr => ∃ k : Nat, k ≤ 2 ∧ i = .int .i64 k ∧ PIn wr b (mkd D.n k) A c ∧ Chg (PF b A) wc wr) (fun i _ => 2 - (intOf i).toNat)
    case atStart => exact ⟨0, Nat.zero_le _, rfl, HO.out.pool.p, Chg.refl _ _⟩
    case round =>
      obtain ⟨k, hk, rfl, hp, hc⟩ := hrel
      have HP := Lib.hid (And.intro hp hc)
      obtain ⟨c1, f1, s1⟩ := (HK.out wr hc).facts
      clear c0 f0 s0 hp hc
      by_cases hlt : k < 2
      · go_wp2_with (go_at_call 25; (refine (pmark_any b k _ A c _ HP.out.1 (by rw [mkd_len]; exact HX.out)).mono ?_); rintro e w3 ⟨rfl, h3, h4⟩; have H3 := Lib.hid (And.intro h3 h4); clear h3 h4)
        have H4 := Lib.hid (show PIn w3 b (mkd D.n (k + 1)) A c from by have := H3.out.1; rw [mkd_mark D.n k (by omega)] at this; exact this)
        exact ⟨⟨k + 1, by omega, by simp, H4.out, Chg.trans HP.out.2 H3.out.2 fun _ _ e => e⟩, by simp [intOf]; omega⟩
      · obtain rfl : k = 2 := by omega
        go_wp2_with (go_at_call 26; (refine (load_none d F D _ (HD.out _ HP.out.2) hd (by omega) (by omega) H.out.2.2.1 H.out.2.2.2).mono ?_); rintro e w4 ⟨rfl, h4⟩; have H4 := Lib.hid h4; clear h4)
        go_ret2
        have hg : Grew w1 w4 := Grew.trans (Chg.trans HO.out.grew HP.out.2 fun i hi e => by have := HO.out.pool.new i e; omega) H4.out
        have hsz := HG1.out.size
        obtain ⟨F', hF, hnew⟩ := gfresh_mk (w0 := w1) ((H.out.1.grew HG1.out).grew hg) (fun j hj => Nat.lt_of_lt_of_le (H.out.1.lt j hj) hsz) h0 (Nat.lt_of_lt_of_le (tab_pos H.out.2.1) hsz) (tab_chg (tab_chg H.out.2.1 HG1.out id) hg id) hsm.2.1
          ((HK.out _ HP.out.2).grew H4.out) ((HO.out.t1.blk.chg HP.out.2 (pf_ne HO.out.pool.p HO.out.t1.blk (by decide) (by decide))).grew H4.out) ((HO.out.t2.blk.chg HP.out.2 (pf_ne HO.out.pool.p HO.out.t2.blk (by decide) (by decide))).grew H4.out) HO.out.ne (HP.out.1.grew H4.out)
          HO.out.new HO.out.t1.new HO.out.t2.new HO.out.pool.new
        exact ⟨p, F', rfl, hF.grew ((Chg.refl _ _).alloc _), (Grew.trans HG1.out hg).alloc _, fun j hj => (hnew j hj).imp id fun e => Nat.le_trans hsz e⟩

end Go.Proofs.YtjlkpeplldckoaaGreatDoor

/- The pager: a new one on a new disk, as its pages are. -/
namespace Go.Proofs.YtjlkpeplldckoaaGreatDoor
open Go.RowKit Go.Maps

/-- A pager without pages. -/
def Rp.fresh (n sz : Nat) : Rp := { n := n, sz := sz, now := List.replicate (capN n sz) .no, was := none, touched := fun _ => false, epoch := 0 }
theorem rootL_zeros {ep m : Nat} {pg : List Nat} {sz : Nat} (h1 : 1 ≤ ep) (h2 : ep ≤ 1099511627776) (he : List.replicate m 0 = rootL ep pg sz) : False := by
  have hz : ∀ x ∈ tail8 ep, x = 0 := fun x hx => by
    have : x ∈ rootL ep pg sz := List.mem_append_right _ hx
    rw [← he] at this
    exact (List.mem_replicate.1 this).2
  have e0 := hz ((ep / 1099511627776 % 256 : Nat) : Int) (by simp [tail8])
  have e1 := hz ((ep / 4294967296 % 256 : Nat) : Int) (by simp [tail8])
  have e2 := hz ((ep / 16777216 % 256 : Nat) : Int) (by simp [tail8])
  have e3 := hz ((ep / 65536 % 256 : Nat) : Int) (by simp [tail8])
  have e4 := hz ((ep / 256 % 256 : Nat) : Int) (by simp [tail8])
  have e5 := hz ((ep % 256 : Nat) : Int) (by simp [tail8])
  omega
theorem rep_at {n i s : Nat} (h : (List.replicate n 0)[i]? = some s) : s = 0 := by
  rw [List.getElem?_replicate] at h
  split at h <;> simp at h
  exact h.symm
theorem rep_getD (n i : Nat) : (List.replicate n 0).getD i 0 = 0 := by
  rw [List.getD_eq_getElem?_getD]
  cases h : (List.replicate n 0)[i]? with
  | none => rfl
  | some s => rw [rep_at h]; rfl
theorem Gp.fresh_ok (n sz : Nat) (D : Dk) (hD : D = ⟨n, sz, fun _ => List.replicate sz 0, fun _ => none, false, 0, false, 0⟩) (h : 8 ≤ n ∧ n ≤ 4096 ∧ 64 ≤ sz ∧ sz ≤ 4096) : (Gp.fresh D).Ok ∧ (Gp.fresh D).view = Rp.fresh n sz := by
  subst hD
  have hm : ∀ s, s < n → (mkd n 2).getD s false = decide (2 ≤ s) := fun s hs => by rw [mkd_at n 2 s (by omega)]; simp [hs]
  have hcap : capN n sz ≤ 4096 := by unfold capN; split <;> omega
  refine ⟨⟨⟨h, ⟨mkd_len n 2, by simp [Gp.fresh], by simp [Gp.fresh], by simp [Gp.fresh, Gp.old]⟩, fun i s hi => ?_, fun k s hk h0 => absurd (rep_at hk) h0, fun i j s hi _ h2 => ?_, fun i j s hi _ h0 => absurd (rep_at hi) h0, fun k i s hk _ => ?_, fun s hs => ?_, fun s hs => ?_, fun i s hi h2 => ?_, fun i j s hi _ h2 => ?_, ⟨List.nodup_nil, fun s => ?_⟩, fun i hi => absurd rfl hi, fun k hk => ?_, ?_, fun s _ _ => rfl, ⟨fun e => ?_, fun i e' pg' _ hg _ hr => ?_, fun _ s hs => (List.mem_replicate.1 hs).2, fun k _ i _ => rep_getD _ _, fun k s hk h0 => absurd (rep_at hk) h0, fun k s hk h0 => absurd (rep_at hk) h0⟩, fun s _ x hx => ?_, Nat.zero_le _⟩, rfl, ⟨rfl, rfl, rfl⟩⟩, ?_⟩
  · have := rep_at hi; show s < n; omega
  · have := rep_at hi; omega
  · have := rep_at hk; omega
  · show (mkd n 2).getD s false = false ↔ _
    rw [hm s hs]
    constructor
    · intro e; left; simpa using e
    · rintro (e | ⟨k, e⟩ | ⟨k, e⟩ | e)
      · simpa using e
      · have := rep_at e; simp; omega
      · have := rep_at e; simp; omega
      · simp [Gp.fresh, Gp.fr] at e
  · simp [Gp.fresh, Gp.fr] at hs
  · have := rep_at hi; omega
  · have := rep_at hi; omega
  · simp only [Gp.fresh, Gp.lf, List.not_mem_nil, false_iff, not_and, not_exists]
    rintro h2 i hi
    have := rep_at hi
    omega
  · simp [Gp.fresh, Gp.tc] at hk
  · rw [show (Gp.fresh _).tc = fun _ => false from rfl, show cntN (fun _ => false) 64 = 0 from cntN_false fun _ _ => rfl]
    exact Nat.zero_le _
  · simp [Gp.fresh] at e
  · exact (rootL_zeros hg.1 hg.2.1 (show List.replicate sz 0 = _ from hr)).elim
  · have : x = 0 := (List.mem_replicate.1 (show x ∈ List.replicate sz 0 from hx)).2
    omega
  · simp [Gp.view, Rp.fresh, Gp.fresh, Gp.fr, Gp.tc, pk]

theorem gp_open_new (n sz d : Nat) (F : Nat → Prop) (w : World) (h : DS w d F ⟨n, sz, fun _ => List.replicate sz 0, fun _ => none, false, 0, false, 0⟩) (hT : TabAt 0 tab w) (h0 : ¬ F 0) (hn : 8 ≤ n) (hz : 64 ≤ sz) :
    Calls Tryz.prog 7 #[.pointer (some ⟨d, 0, none⟩)] w fun e w' => ∃ p F', e = .returned (.tuple #[.pointer (some ⟨p, 0, none⟩), .int .i64 0]) ∧ GP w' p F' (Rp.fresh n sz) ∧ Grew w w' ∧ ∀ j, F' j → F j ∨ w.heap.size ≤ j := by
  have hs := h.sml
  have hsz : 64 ≤ sz ∧ sz ≤ 4096 := ⟨hz, hs.2.2.2⟩
  have hnn : n ≤ 4096 := hs.2.1
  have hfo := Gp.fresh_ok n sz _ rfl ⟨hn, hnn, hsz⟩
  refine (gopen_new d F _ w h rfl hT h0 hn hz (fun i _ => ?_) (fun i _ x hx => ?_)).mono ?_
  · show partL (List.take (sz - 8) (List.replicate sz 0)) = none
    rw [List.take_replicate, Nat.min_eq_left (by omega)]
    exact part_zeros _ (by omega) (by omega)
  · have : x = 0 := (List.mem_replicate.1 (show x ∈ List.replicate sz 0 from hx)).2
    omega
  · rintro e w' ⟨p, F', rfl, h1, h2, h3⟩
    exact ⟨p, F', rfl, ⟨_, h1, hfo.1, hfo.2⟩, h2, h3⟩

end Go.Proofs.YtjlkpeplldckoaaGreatDoor

/- The pager, as its pages are: Room; what is free in a new one. -/
namespace Go.Proofs.YtjlkpeplldckoaaGreatDoor
open Go.RowKit Go.Maps

theorem gp_room (p : Nat) (F : Nat → Prop) (x : Rp) (w : World) (h : GP w p F x) :
    Calls Tryz.prog 12 #[.pointer (some ⟨p, 0, none⟩)] w fun e' w' => e' = .returned (.int .i64 x.room) ∧ Grew w w' := by
  obtain ⟨X, h1, h2, rfl⟩ := h
  rw [← h2.room]
  exact groom_any p F X w h1 (by rw [h2.inv.lens.1]; have := h2.inv.sz; omega)

theorem rep_no_used (m row k : Nat) : partUsed row (List.replicate m Pk.no) k = false := by
  unfold partUsed
  rw [List.any_eq_false]
  intro i _
  have : (List.replicate m Pk.no).getD (k * row + i) .no = .no := by
    rw [List.getD_eq_getElem?_getD, List.getElem?_replicate]
    split <;> rfl
  rw [this]
  simp [Pk.used]
theorem rep_no_tabs (n sz m : Nat) : tabsUsed n sz (List.replicate m Pk.no) = 0 := by
  unfold tabsUsed
  refine List.countP_eq_zero.2 fun k _ => ?_
  rw [rep_no_used]
  simp
theorem rep_no_count (m : Nat) (f : Pk → Bool) (h : f .no = false) : (List.replicate m Pk.no).countP f = 0 := by
  rw [List.countP_replicate, h]; rfl
/-- What is free in a new pager, in a change or not. -/
theorem fresh_free (n sz : Nat) : (Rp.fresh n sz).free = (n : Int) - 2 ∧ (Rp.fresh n sz).begun.free = (n : Int) - 2 ∧ (Rp.fresh n sz).room = (n : Int) - 2 ∧ (Rp.fresh n sz).begun.room = (n : Int) - 2 := by
  have h1 : (Rp.fresh n sz).free = (n : Int) - 2 := by
    show (n : Int) - 2 - (tabsUsed n sz (List.replicate (capN n sz) Pk.no) : Nat) - ((List.replicate (capN n sz) Pk.no).countP Pk.isOld : Nat) - ((List.replicate (capN n sz) Pk.no).countP Pk.isNew : Nat) = _
    rw [rep_no_tabs, rep_no_count _ _ rfl, rep_no_count _ _ rfl]
    omega
  have h2 : (Rp.fresh n sz).begun.free = (n : Int) - 2 := h1
  have h3 : cntN (fun _ => false) 64 = 0 := cntN_false fun _ _ => rfl
  refine ⟨h1, h2, ?_, ?_⟩
  · show (Rp.fresh n sz).free - (cntN (fun _ => false) 64 : Nat) = _
    rw [h1, h3]; simp
  · show (Rp.fresh n sz).begun.free - (cntN (fun _ => false) 64 : Nat) = _
    rw [h2, h3]; simp

end Go.Proofs.YtjlkpeplldckoaaGreatDoor

/- The pager, as its pages are: Size. -/
namespace Go.Proofs.YtjlkpeplldckoaaGreatDoor
open Go.RowKit Go.Maps

section
variable (p i : Nat) (F : Nat → Prop) (x : Rp) (w : World)
theorem gp_size (h : GP w p F x) :
    Calls Tryz.prog 11 #[.pointer (some ⟨p, 0, none⟩)] w fun e' w' => e' = .returned (.int .i64 x.sz) ∧ w = w' := by
  obtain ⟨X, h1, h2, rfl⟩ := h
  exact gsize_any p F X w h1
end

end Go.Proofs.YtjlkpeplldckoaaGreatDoor

/- The pager: Alloc, Write, Free in all cases; how much slack there is. -/
namespace Go.Proofs.YtjlkpeplldckoaaGreatDoor
open Go.RowKit Go.Maps

/-- How many sectors may be taken at any rate. -/
def Rp.slack (x : Rp) : Int := x.free - tabN x.n x.sz
theorem countP_set' {α : Type} (p : α → Bool) (a b : α) : ∀ (l : List α) (i : Nat), l[i]? = some b → (l.set i a).countP p + (if p b then 1 else 0) = l.countP p + (if p a then 1 else 0)
  | [], i, h => by simp at h
  | c :: t, 0, h => by
    simp only [List.getElem?_cons_zero, Option.some.injEq] at h
    subst h
    simp only [List.set_cons_zero, List.countP_cons]
    omega
  | c :: t, i + 1, h => by
    simp only [List.getElem?_cons_succ] at h
    have := countP_set' p a b t i h
    simp only [List.set_cons_succ, List.countP_cons]
    omega
theorem Rp.put_slack {x : Rp} {i : Nat} {c c0 : Pk} (hw : x.was ≠ none) (hi : x.now[i]? = some c0) : (x.put i c).slack + (if c.isNew then 1 else 0) = x.slack + (if c0.isNew then 1 else 0) := by
  have h1 := countP_set' Pk.isNew c c0 x.now i hi
  have hb : (x.put i c).base = x.base := by
    unfold Rp.base Rp.put
    cases hx : x.was with
    | none => exact absurd hx hw
    | some b => rfl
  unfold Rp.slack Rp.free
  rw [hb, show (x.put i c).n = x.n from rfl, show (x.put i c).sz = x.sz from rfl, show (x.put i c).now = x.now.set i c from rfl]
  split at h1 <;> split at h1 <;> simp_all <;> omega
theorem Rp.put_used {x : Rp} {i : Nat} {c c0 : Pk} (hi : x.now[i]? = some c0) : (x.put i c).now.countP Pk.used + (if c0.used then 1 else 0) = x.now.countP Pk.used + (if c.used then 1 else 0) := countP_set' Pk.used c c0 x.now i hi
theorem Rp.put_at {x : Rp} {i k : Nat} {c : Pk} (hi : i < x.now.length) : (x.put i c).now[k]? = if k = i then some c else x.now[k]? := set_at hi
theorem Rp.put_len (x : Rp) (i : Nat) (c : Pk) : (x.put i c).now.length = x.now.length := List.length_set
/-- The same disk, and the same pages when the change began. -/
structure Rp.like (x y : Rp) : Prop where
  n : y.n = x.n
  sz : y.sz = x.sz
  was : y.was = x.was
  epoch : y.epoch = x.epoch
  len : y.now.length = x.now.length
theorem Rp.like.refl (x : Rp) : x.like x := ⟨rfl, rfl, rfl, rfl, rfl⟩
theorem Rp.like.trans {x y z : Rp} (h : x.like y) (k : y.like z) : x.like z := ⟨k.n.trans h.n, k.sz.trans h.sz, k.was.trans h.was, k.epoch.trans h.epoch, k.len.trans h.len⟩
theorem Rp.put_like (x : Rp) (i : Nat) (c : Pk) : x.like (x.put i c) := ⟨rfl, rfl, rfl, rfl, List.length_set⟩

theorem cntN_bnd {f : Nat → Bool} {T : Nat} (h : ∀ k, f k = true → k < T) : ∀ n, cntN f n ≤ T
  | 0 => Nat.zero_le _
  | n + 1 => by
    rw [cntN_succ]
    by_cases hn : n < T
    · have := cntN_le f n; split <;> omega
    · have : f n = false := by cases e : f n with | false => rfl | true => exact absurd (h n e) hn
      rw [this]
      simpa using cntN_bnd h n
section
variable {w w' : World} {p i : Nat} {F : Nat → Prop} {x : Rp}
theorem GP.part (h : GP w p F x) (hi : i < x.now.length) : i / x.row < tabN x.n x.sz := by
  obtain ⟨X, -, h2, rfl⟩ := h
  have := h2.inv.part (i := i) (by simpa [Gp.view] using hi)
  rw [h2.inv.lens.2.1] at this
  exact this
theorem GP.need (h : GP w p F x) {k m : Nat} (hk : k < tabN x.n x.sz) (hm : (m : Int) ≤ x.slack) : (x.need k m : Int) ≤ x.room := by
  obtain ⟨X, -, h2, rfl⟩ := h
  have h3 : ∀ q, X.tc q = true → q < tabN X.D.n X.D.sz := fun q hq => by have := h2.inv.tc6 q hq; rw [h2.inv.lens.2.1] at this; exact this
  have h64 : tabN X.D.n X.D.sz ≤ 64 := by have := h2.inv.pg64; rw [h2.inv.lens.2.1] at this; exact this
  have hk' : k < tabN X.D.n X.D.sz := hk
  unfold Rp.room Rp.need
  have e1 : X.view.touched = X.tc := rfl
  have e2 : X.view.slack = X.view.free - tabN X.D.n X.D.sz := rfl
  rw [e1]
  cases ht : X.tc k with
  | true => have := cntN_bnd h3 64; simp; omega
  | false =>
    have h4 := cntN_bnd (f := setB X.tc k true) (T := tabN X.D.n X.D.sz) (fun q hq => by
      unfold setB at hq
      split at hq
      · omega
      · exact h3 q hq) 64
    rw [cntN_yes X.tc (by omega) ht] at h4
    simp
    omega
/-- Table pages that are touched are kept back at most. -/
theorem GP.room (h : GP w p F x) : x.slack ≤ x.room ∧ x.room ≤ x.free ∧ 0 ≤ x.room := by
  obtain ⟨X, -, h2, rfl⟩ := h
  have h3 : ∀ q, X.tc q = true → q < tabN X.D.n X.D.sz := fun q hq => by have := h2.inv.tc6 q hq; rw [h2.inv.lens.2.1] at this; exact this
  have h4 := cntN_bnd h3 64
  have h5 := h2.inv.room
  have h6 := h2.free
  have e1 : X.view.touched = X.tc := rfl
  have e2 : X.view.slack = X.view.free - tabN X.D.n X.D.sz := rfl
  unfold Rp.room
  rw [e1]
  omega
end
theorem least_no : ∀ (l : List Pk), Pk.no ∈ l → ∃ i, l[i]? = some .no ∧ ∀ (k : Nat) c, k < i → l[k]? = some c → c ≠ .no
  | [], h => by simp at h
  | c :: t, h => by
    by_cases hc : c = .no
    · subst hc; exact ⟨0, rfl, fun k c hk => by omega⟩
    · obtain ⟨i, h1, h2⟩ := least_no t ((List.mem_cons.1 h).resolve_left (Ne.symm hc))
      refine ⟨i + 1, by simpa using h1, fun k c' hk hk2 => ?_⟩
      cases k with
      | zero => simp at hk2; subst hk2; exact hc
      | succ k => exact h2 k c' (by omega) (by simpa using hk2)

section
variable (p : Nat) (F : Nat → Prop) (x : Rp) (w : World)
theorem gp_alloc_any (h : GP w p F x) (ho : x.was ≠ none) :
    Calls Tryz.prog 14 #[.pointer (some ⟨p, 0, none⟩)] w fun e' w' =>
      (∃ i : Nat, x.now[i]? = some .no ∧ (∀ (k : Nat) c, k < i → x.now[k]? = some c → c ≠ .no) ∧ e' = .returned (.tuple #[.int .i64 i, .int .i64 0]) ∧ GPTo w w' p F (x.put i .zero)) ∨
      (¬ (0 ≤ x.slack ∧ Pk.no ∈ x.now) ∧ e' = .returned (.tuple #[.int .i64 0, .int .i64 21]) ∧ Grew w w') := by
  by_cases hn : Pk.no ∈ x.now
  · obtain ⟨i, h1, h2⟩ := least_no x.now hn
    by_cases hm : (x.need (i / x.row) 0 : Nat) ≤ x.room
    · refine (gp_alloc_ok p i F x w h ho h1 h2 hm).mono ?_
      rintro e w' ⟨rfl, h3⟩
      exact .inl ⟨i, h1, h2, rfl, h3⟩
    · refine (gp_alloc_full p i F x w h ho h1 h2 (by omega)).mono ?_
      rintro e w' ⟨rfl, h3⟩
      refine .inr ⟨fun hs => hm (h.need (h.part (List.getElem?_eq_some_iff.1 h1).1) (by simpa using hs.1)), rfl, h3⟩
  · refine (gp_alloc_none p F x w h ho fun c hc e => hn (e ▸ hc)).mono ?_
    rintro e w' ⟨rfl, rfl⟩
    exact .inr ⟨fun hs => hn hs.2, rfl, Chg.refl _ _⟩
theorem gp_write_any (i : Nat) (bs : List Int) (Ab : Option Addr) (cb : Nat) (c : Pk) (h : GP w p F x) (ho : x.was ≠ none) (hi : x.now[i]? = some c) (hu : c.used = true)
    (hb : bs.length = x.sz) (hby : ∀ q ∈ bs, 0 ≤ q ∧ q ≤ 255) (hA : Ab ≠ none) (hsl : Sl w 1 Ab bs.length (bv bs)) (hsF : ∀ a, Ab = some a → ¬ F a.block) :
    Calls Tryz.prog 15 #[.pointer (some ⟨p, 0, none⟩), .int .i64 i, .slice Ab bs.length cb] w fun e' w' =>
      (e' = .returned (.int .i64 0) ∧ GPTo w w' p F (x.put i (.new bs))) ∨ (¬ (1 ≤ x.slack) ∧ c.isNew = false ∧ e' = .returned (.int .i64 21) ∧ Grew w w') := by
  by_cases hm : c.isNew = true ∨ (x.need (i / x.row) 1 : Nat) ≤ x.room
  · exact (gp_write p i F x w bs Ab cb c h ho hi hu hm hb hby hA hsl hsF).mono fun e w' k => .inl k
  · have hn : c.isNew = false := by cases e : c.isNew with | false => rfl | true => exact absurd (.inl e) hm
    have hr : x.room < (x.need (i / x.row) 1 : Nat) := by
      have : ¬ ((x.need (i / x.row) 1 : Nat) : Int) ≤ x.room := fun e => hm (.inr e)
      omega
    refine (gp_write_full p i F x w Ab cb bs.length c h ho hi hu hn hr hb).mono ?_
    rintro e w' ⟨rfl, h3⟩
    exact .inr ⟨fun hs => by have := h.need (h.part (List.getElem?_eq_some_iff.1 hi).1) (m := 1) (by simpa using hs); omega, hn, rfl, h3⟩
end

end Go.Proofs.YtjlkpeplldckoaaGreatDoor

/- The pager's laws: a page of one byte; Epoch, Cap; a fixed answer. -/
namespace Go.Proofs.YtjlkpeplldckoaaGreatDoor
open Go.RowKit Go.Maps

theorem conv_own {w : World} {base n c : Nat} {bs : List Int} {A : Option Addr} (h : w.ownsRow base 5 1 (.slice A n c) n (bv bs)) (h0 : 0 < n) : (convert 38 9 (.slice A n c)).run Tryz.prog w = .ok (.string (strOfNums bs)) w := by
  have hl : bs.length = n := by have := h.1; rwa [bv_len, Nat.mul_one] at this
  subst hl
  obtain ⟨b, off, rfl, hb, hx⟩ := (Sl.of_own h).2 h0
  refine run_convert_bytes_arg w 38 5 Tryz.underlying38 (by kernel_rfl) b off bs.length c bs rfl (fun i hi => ?_) 9 (by kernel_rfl)
  exact hx i (.int .u8 (bs.getD i 0)) (by simp [bv, hi])
theorem chg_new {F : Nat → Prop} {w w1 w2 : World} (hg : Grew w w1) (hc : Chg F w1 w2) (hn : ∀ j, F j → w.heap.size ≤ j) : Grew w w2 := Chg.trans hg hc fun i hi e => by have := hn i e; omega

/-- A page of one byte. -/
def fullL (c : Int) : List Int := List.replicate 64 c
theorem fullL_set (c : Int) (i : Nat) (h : i < 64) : (List.replicate i c ++ List.replicate (64 - i) 0).set i c = List.replicate (i + 1) c ++ List.replicate (64 - (i + 1)) 0 := by
  obtain ⟨m, hm⟩ : ∃ m, 64 - i = m + 1 := ⟨64 - i - 1, by omega⟩
  rw [hm, show 64 - (i + 1) = m by omega, List.replicate_succ, List.set_append_right _ _ (by simp)]
  simp [List.replicate_succ']
set_option maxHeartbeats 800000 in
theorem full_any (c : Int) (w : World) :
    Calls Tryz.prog 16 #[.int .u8 c] w fun e w' => OwnOut w w' 5 1 64 (bv (fullL c)) (fun A c => .slice A 64 c) e := by
  obtain ⟨w2, hmk0, ho2, hg2, hz2⟩ := make_bytes 64 w (by omega)
  obtain ⟨g, hg⟩ : ∃ g, w.heap.size = g := ⟨_, rfl⟩
  rw [hg] at hmk0 ho2
  have hmk : (Instr.makeSlice 38 (.int .i64 64) (.int .i64 64)).run Tryz.prog w = .ok (.slice (some ⟨g, 0, none⟩) 64 64) w2 := hmk0
  have H := Lib.hid (And.intro ho2 (And.intro hg2 hg))
  clear hmk0 ho2 hg2 hz2 hg
  go_enter Tryz.func16, Tryz.ntmps16
  go_wp2
  clear hmk
  go_loopg [8] 64 (fun q v wr => ∃ i : Nat, q = 64 - i ∧ i ≤ 64 ∧ v = .int .i64 i ∧ wr.ownsRow g 5 1 (.slice (some ⟨g, 0, none⟩) 64 64) 64 (bv (List.replicate i c ++ List.replicate (64 - i) 0)) ∧ Grew w wr)
  case atStart => exact ⟨0, rfl, Nat.zero_le _, rfl, H.out.1, H.out.2.1⟩
  case round =>
    obtain ⟨i, rfl, hi, rfl, ho, hgr⟩ := hrel
    by_cases hlt : i < 64
    · have hst := (ho.stored i (.int .u8 c)).1
      have hrow : (bv (List.replicate i c ++ List.replicate (64 - i) 0)).set i (.int .u8 c) = bv (List.replicate (i + 1) c ++ List.replicate (64 - (i + 1)) 0) := by
        rw [← fullL_set c i hlt]
        unfold bv
        rw [List.map_set]
      rw [hrow] at hst
      obtain ⟨u0, hu0⟩ : ∃ u, wr.cell? ⟨g, i, none⟩ = some u := by
        rw [ho.cellAt i (by omega)]
        exact ⟨_, List.getElem?_eq_getElem (by rw [bv_len]; simp; omega)⟩
      have fr0 := ho.frozenAt i
      have sg := (ho.lt g rfl).2
      have hgw : Grew w (wr.setCell ⟨g, i, none⟩ (.int .u8 c)) := hgr.setCell (p := ⟨g, i, none⟩) (fun e => absurd e (by have := H.out.2.2; simp only; omega)) _
      have HR := Lib.hid (And.intro hst hgw)
      clear ho hst hrow hgr hgw
      go_wp2
      go_roundg (64 - (i + 1))
      case measure => omega
      case rel => exact ⟨i + 1, rfl, by omega, by simp, HR.out.1, HR.out.2⟩
    · obtain rfl : i = 64 := by omega
      have HD := Lib.hid (And.intro ho hgr)
      clear ho hgr
      go_wp2
      go_ret
      refine OwnOut.mk (some ⟨g, 0, none⟩) 64 rfl ?_ HD.out.2
      have := HD.out.1
      rw [H.out.2.2]
      simpa [fullL] using this

theorem gp_epoch (p : Nat) (F : Nat → Prop) (x : Rp) (w : World) (h : GP w p F x) :
    Calls Tryz.prog 20 #[.pointer (some ⟨p, 0, none⟩)] w fun e' w' => e' = .returned (.int .i64 x.epoch) ∧ w = w' := by
  obtain ⟨X, ⟨L, d, b, A, ca, vp, vt, vo, h, hF⟩, h2, rfl⟩ := h
  obtain ⟨c0, f0, s0⟩ := h.blk.facts
  clear h hF h2
  go_enter Tryz.func20, Tryz.ntmps20
  go_wp2
  go_ret
  exact ⟨rfl, rfl⟩
theorem gp_cap (p : Nat) (F : Nat → Prop) (x : Rp) (w : World) (h : GP w p F x) :
    Calls Tryz.prog 10 #[.pointer (some ⟨p, 0, none⟩)] w fun e' w' => e' = .returned (.int .i64 x.now.length) ∧ w = w' := by
  obtain ⟨X, ⟨L, d, b, A, ca, vp, vt, vo, h, hF⟩, h2, rfl⟩ := h
  obtain ⟨At, ct, rfl, -⟩ := own_shape h.tbl
  obtain ⟨c0, f0, s0⟩ := h.blk.facts
  have e : X.view.now.length = X.table.length := by simp [Gp.view]
  rw [e]
  clear h hF h2 e
  go_enter Tryz.func10, Tryz.ntmps10
  go_wp2
  go_ret
  exact ⟨rfl, rfl⟩
theorem gp_write_shut (p : Nat) (i : Int) (F : Nat → Prop) (x : Rp) (w : World) (A : Option Addr) (n c : Nat) (h : GP w p F x) (ho : x.was = none) :
    Calls Tryz.prog 15 #[.pointer (some ⟨p, 0, none⟩), .int .i64 i, .slice A n c] w fun e' w' => e' = .returned (.int .i64 23) ∧ w = w' := by
  obtain ⟨X, h1, h2, rfl⟩ := h
  have hx : X.op = none := by
    cases hx : X.op with
    | none => rfl
    | some o => simp [Gp.view, hx] at ho
  have hrd := gready_any p F X w h1
  rw [show X.rdy = 23 from by unfold Gp.rdy; rw [h2.up.1, hx]; rfl] at hrd
  have H := Lib.hid hrd
  clear h1 h2 hx hrd ho
  go_enter Tryz.func15, Tryz.ntmps15
  go_wp2_with (go_at_call 32; (refine H.out.mono ?_); rintro e w1 ⟨rfl, rfl⟩)
  go_ret
  exact ⟨rfl, rfl⟩

theorem fullL_len (c : Int) : (fullL c).length = 64 := by simp [fullL]
theorem fullL_byte {c : Int} (h : 0 ≤ c ∧ c ≤ 255) : ∀ q ∈ fullL c, 0 ≤ q ∧ q ≤ 255 := fun q hq => by
  have := (List.mem_replicate.1 hq).2
  omega
/-- A page of one byte is written. -/
theorem gp_write_one (p : Nat) (F : Nat → Prop) (x : Rp) (w : World) (i g c : Nat) (a : Int) (k : Pk) (h : GP w p F x) (ho : x.was ≠ none) (hi : x.now[i]? = some k) (hu : k.used = true) (hz : x.sz = 64) (ha : 0 ≤ a ∧ a ≤ 255) (hs : 1 ≤ x.slack) (hr : OutR 0 w F 5 (.slice (some ⟨g, 0, none⟩) 64 c) 64 (bv (fullL a))) :
    Calls Tryz.prog 15 #[.pointer (some ⟨p, 0, none⟩), .int .i64 i, .slice (some ⟨g, 0, none⟩) 64 c] w fun e' w' => e' = .returned (.int .i64 0) ∧ GPTo w w' p F (x.put i (.new (fullL a))) := by
  have hsl := Sl.of_own hr.own
  have := gp_write_any p F x w i (fullL a) (some ⟨g, 0, none⟩) c k h ho hi hu (by rw [fullL_len, hz]) (fullL_byte ha) (by simp) (by rw [fullL_len]; exact hsl) (fun b hb => by injection hb with hb; rw [← hb]; exact hr.out g rfl)
  rw [fullL_len] at this
  refine this.mono fun e w' hh => ?_
  rcases hh with hh | ⟨hne, -⟩
  · exact hh
  · exact absurd hs hne

end Go.Proofs.YtjlkpeplldckoaaGreatDoor

/- The pager's laws: the fixed answer. -/
namespace Go.Proofs.YtjlkpeplldckoaaGreatDoor
open Go.RowKit Go.Maps

def aw0 : Rp := (Rp.fresh 8 64).begun
def aw1 : Rp := aw0.put 0 .zero
def aw2 : Rp := aw1.put 0 (.new (fullL 1))
theorem aw_slack : aw0.slack = 5 ∧ aw1.slack = 5 ∧ aw0.now = List.replicate 6 .no := ⟨by kernel_rfl, by kernel_rfl, by kernel_rfl⟩
theorem aw_at : aw1.now[0]? = some .zero := by kernel_rfl
theorem aw_comm : aw2.comm.epoch = 1 ∧ aw2.comm.now.length = 6 ∧ aw2.comm.was = none ∧ aw2.comm.now[0]? = some (.old (fullL 1)) := ⟨by kernel_rfl, by kernel_rfl, rfl, by kernel_rfl⟩

set_option maxRecDepth 100000 in
set_option maxHeartbeats 3200000 in
theorem pawake_any (w : World) (hT : TabAt 0 tab w) :
    Calls Tryz.prog 5 #[] w fun e w' => e = .returned (.bool true) ∧ Grew w w' := by
  have H := Lib.hid hT
  clear hT
  go_enter Tryz.func5, Tryz.ntmps5
  go_wp2_with fail
  refine (dnew_any 8 64 _ (by omega) (by omega) (by omega) (by omega)).mono ?_
  rintro e w1 ⟨d, F1, rfl, hd, hg1, hn1⟩
  have hT1 := tab_chg H.out hg1 id
  have hF0 : ¬ F1 0 := fun e => by have := hn1 0 e; have := tab_pos H.out; omega
  have H1 := Lib.hid (And.intro hd (And.intro hg1 (And.intro hn1 (And.intro hT1 hF0))))
  clear hd hg1 hn1 hT1 hF0
  go_wp2_with fail
  refine (gp_open_new 8 64 d F1 w1 H1.out.1 H1.out.2.2.2.1 H1.out.2.2.2.2 (by omega) (by omega)).mono ?_
  rintro e w2 ⟨p, F2, rfl, hp, hg2, hn2⟩
  have H2 := Lib.hid (And.intro hp (And.intro (Grew.trans H1.out.2.1 hg2) (fun j hj => show w.heap.size ≤ j from (hn2 j hj).elim (H1.out.2.2.1 j) fun e => Nat.le_trans H1.out.2.1.size e)))
  clear hp hg2 hn2
  go_wp2_with fail
  refine (gp_begin p F2 _ w2 H2.out.1 rfl).mono ?_
  rintro e w3 ⟨rfl, F3, h3, hc3, hn3⟩
  have H3 := Lib.hid (And.intro (show GP w3 p F3 aw0 from h3) (And.intro (chg_new H2.out.2.1 hc3 H2.out.2.2) (fun j hj => show w.heap.size ≤ j from (hn3 j hj).elim (H2.out.2.2 j) fun e => Nat.le_trans H2.out.2.1.size e)))
  clear h3 hc3 hn3
  go_wp2_with fail
  refine (gp_alloc_any p F3 aw0 w3 H3.out.1 (by simp [aw0, Rp.begun])).mono ?_
  rintro e w4 (⟨i, h1, h2, rfl, F4, h4, hc4, hn4⟩ | ⟨hne, -, -⟩)
  rotate_left
  · exact absurd ⟨by rw [aw_slack.1]; omega, by rw [aw_slack.2.2]; simp [List.replicate]⟩ hne
  obtain rfl : i = 0 := by
    by_cases e : i = 0
    · exact e
    · exact absurd rfl (h2 0 .no (by omega) (by rw [aw_slack.2.2]; rfl))
  have H4 := Lib.hid (And.intro (show GP w4 p F4 aw1 from h4) (And.intro (chg_new H3.out.2.1 hc4 H3.out.2.2) (fun j hj => show w.heap.size ≤ j from (hn4 j hj).elim (H3.out.2.2 j) fun e => Nat.le_trans H3.out.2.1.size e)))
  clear h1 h2 h4 hc4 hn4
  go_wp2_with fail
  refine (full_any 1 w4).mono ?_
  rintro e w5 ⟨A5, c5, rfl, ho5, hg5⟩
  obtain ⟨g5, rfl, hgl5⟩ := own_block ho5 (by omega)
  have hO5 : OutR 0 w5 F4 5 (.slice (some ⟨g5, 0, none⟩) 64 c5) 64 (bv (fullL 1)) := ⟨own_base ho5 (Nat.zero_le _), fun q hq e => by have := (ho5.lt q hq).1; have := H4.out.1.lt q e; omega⟩
  have hwr := gp_write_one p F4 aw1 w5 0 g5 c5 1 .zero (H4.out.1.grew hg5) (by simp [aw1, aw0, Rp.put, Rp.begun]) aw_at rfl rfl (by omega) (by rw [aw_slack.2.1]; omega) hO5
  have H5 := Lib.hid (And.intro hwr (Grew.trans H4.out.2.1 hg5))
  clear ho5 hg5 hO5 hwr hgl5
  go_wp2_with fail
  refine H5.out.1.mono ?_
  rintro e w6 ⟨rfl, F6, h6, hc6, hn6⟩
  have H6 := Lib.hid (And.intro (show GP w6 p F6 aw2 from h6) (And.intro (chg_new H5.out.2 hc6 H4.out.2.2) (fun j hj => show w.heap.size ≤ j from (hn6 j hj).elim (H4.out.2.2 j) fun e => Nat.le_trans H5.out.2.size e)))
  clear h6 hc6 hn6
  go_wp2_with fail
  refine (gp_commit p F6 aw2 w6 H6.out.1 (by simp [aw2, aw1, aw0, Rp.put, Rp.begun]) (by simp [aw2, aw1, aw0, Rp.put, Rp.begun, Rp.fresh])).mono ?_
  rintro e w7 ⟨rfl, F7, h7, hc7, hn7⟩
  have H7 := Lib.hid (And.intro h7 (And.intro (chg_new H6.out.2.1 hc7 H6.out.2.2) (fun j hj => show w.heap.size ≤ j from (hn7 j hj).elim (H6.out.2.2 j) fun e => Nat.le_trans H6.out.2.1.size e)))
  clear h7 hc7 hn7
  go_wp2_with fail
  refine (full_any 2 w7).mono ?_
  rintro e w8 ⟨A8, c8, rfl, ho8, hg8⟩
  have H8 := Lib.hid (And.intro (H7.out.1.grew hg8) (Grew.trans H7.out.2.1 hg8))
  clear ho8 hg8
  go_wp2_with fail
  refine (gp_write_shut p 0 F7 _ w8 A8 64 c8 H8.out.1 rfl).mono ?_
  rintro e w9 ⟨rfl, rfl⟩
  go_wp2_with fail
  have hrd := gp_read p 0 F7 aw2.comm w8 (.old (fullL 1)) H8.out.1 aw_comm.2.2.2 rfl
  have HRd := Lib.hid hrd
  clear hrd
  refine HRd.out.mono ?_
  rintro e w10 ⟨A10, c10, rfl, ho10, -, -, hp10, hc10, -⟩
  have hs64 : aw2.comm.sz = 64 := rfl
  rw [hs64] at ho10 ⊢
  have hp10' : GP w10 p F7 aw2.comm := hp10
  have ho10' : w10.ownsRow w8.heap.size 5 1 (.slice A10 64 c10) 64 (bv (fullL 1)) := ho10
  have H10 := Lib.hid (And.intro hp10' (And.intro (chg_new H8.out.2 hc10 H7.out.2.2) ho10'))
  have hcv := conv_own (show w10.drew.ownsRow _ 5 1 (.slice A10 64 c10) 64 (bv (fullL 1)) from ho10) (by omega)
  have hbq : ((strOfNums (fullL 1)).toList == (strOfNums (fullL 1)).toList) = true := by simp
  clear hp10 hp10' hc10 ho10 ho10' hs64
  go_wp2_with fail
  go_region_with (first
    | (go_at_call 16; refine (full_any 1 _).mono ?_; rintro e w11 ⟨A11, c11, rfl, ho11, hg11⟩; have hcv2 := conv_own ho11 (by omega); have hcv3 := conv_own (own_grew H10.out.2.2 (Grew.trans ((Chg.refl NoF w10).drew) hg11)) (by omega); have HG11 := Lib.hid (Grew.trans ((Chg.refl NoF w10).drew) hg11); clear ho11 hg11)
    | (go_at_call 20; refine (gp_epoch p F7 aw2.comm _ (H10.out.1.grew HG11.out)).mono ?_; rw [aw_comm.1]; rintro e w12 ⟨rfl, rfl⟩)
    | (go_at_call 10; refine (gp_cap p F7 aw2.comm _ (H10.out.1.grew HG11.out)).mono ?_; rw [aw_comm.2.1]; rintro e w12 ⟨rfl, rfl⟩))
  all_goals
    go_wp2_with fail
    go_ret
    exact ⟨rfl, Grew.trans H10.out.2.1 HG11.out⟩

end Go.Proofs.YtjlkpeplldckoaaGreatDoor

/- PagerReuses, plain: the pages of a round. -/
namespace Go.Proofs.YtjlkpeplldckoaaGreatDoor
open Go.RowKit Go.Maps

/-- These 38 pages. -/
def Pat (l : List Pk) (f : Nat → Pk) : Prop := l.length = 38 ∧ ∀ j, j < 38 → l[j]? = some (f j)
theorem Pat.is {l : List Pk} {f : Nat → Pk} (h : Pat l f) : l = (List.range 38).map f := by
  apply List.ext_getElem?
  intro j
  by_cases hj : j < 38
  · rw [h.2 j hj, List.getElem?_map, List.getElem?_range hj]; rfl
  · rw [List.getElem?_eq_none (by rw [h.1]; omega), List.getElem?_eq_none (by simp; omega)]
theorem Pat.put {x : Rp} {f : Nat → Pk} (h : Pat x.now f) {i : Nat} (hi : i < 38) (c : Pk) : Pat (x.put i c).now (fun j => if j = i then c else f j) := by
  refine ⟨by rw [Rp.put_len]; exact h.1, fun j hj => ?_⟩
  rw [Rp.put_at (by rw [h.1]; exact hi)]
  by_cases e : j = i
  · simp [e]
  · simp only [e, if_false]; exact h.2 j hj
/-- The first n are old pages of a byte. -/
def fC (n : Nat) (c : Int) : Nat → Pk := fun j => if j < n then .old (fullL c) else .no
/-- The first i of n are written anew. -/
def fB (n i : Nat) (c c' : Int) : Nat → Pk := fun j => if j < i then .new (fullL c') else fC n c j
/-- Committed. -/
structure RuC (x : Rp) (n : Nat) (c : Int) (e : Nat) : Prop where
  nn : x.n = 40
  sz : x.sz = 64
  now : Pat x.now (fC n c)
  was : x.was = none
  tc : x.touched = fun _ => false
  ep : x.epoch ≤ e
/-- In a change, the first i of n written. -/
structure RuB (x : Rp) (n i : Nat) (c c' : Int) (e : Nat) : Prop where
  nn : x.n = 40
  sz : x.sz = 64
  now : Pat x.now (fB n i c c')
  was : ∃ l, x.was = some l ∧ Pat l (fC n c)
  slack : x.slack + (i : Int) = 35 - (n : Int)
  ep : x.epoch ≤ e
theorem ru_room : ∀ (n : Nat), 1 ≤ n → n ≤ 8 → ∀ (c : Int) (e : Nat), (Rp.mk 40 64 ((List.range 38).map (fC n c)) none (fun _ => false) e).room = 37 - (n : Int) ∧ (Rp.mk 40 64 ((List.range 38).map (fC n c)) (some ((List.range 38).map (fC n c))) (fun _ => false) e).slack = 35 - (n : Int)
  | 0, h, _, _, _ => by omega
  | 1, _, _, c, e => ⟨by kernel_rfl, by kernel_rfl⟩
  | 2, _, _, c, e => ⟨by kernel_rfl, by kernel_rfl⟩
  | 3, _, _, c, e => ⟨by kernel_rfl, by kernel_rfl⟩
  | 4, _, _, c, e => ⟨by kernel_rfl, by kernel_rfl⟩
  | 5, _, _, c, e => ⟨by kernel_rfl, by kernel_rfl⟩
  | 6, _, _, c, e => ⟨by kernel_rfl, by kernel_rfl⟩
  | 7, _, _, c, e => ⟨by kernel_rfl, by kernel_rfl⟩
  | 8, _, _, c, e => ⟨by kernel_rfl, by kernel_rfl⟩
  | n + 9, _, h, _, _ => by omega
section
variable {x : Rp} {n i e : Nat} {c c' : Int}
theorem RuC.room (h : RuC x n c e) (h1 : 1 ≤ n) (h8 : n ≤ 8) : x.room = 37 - (n : Int) := by
  have hn := h.now.is
  obtain ⟨a1, a2, a3, a4, a5, a6⟩ := x
  have b1 := h.nn
  have b2 := h.sz
  have b3 := h.was
  have b4 := h.tc
  simp only at b1 b2 b3 b4 hn
  subst b1 b2 b3 b4 hn
  exact (ru_room n h1 h8 c a6).1
theorem RuC.begun (h : RuC x n c e) (h1 : 1 ≤ n) (h8 : n ≤ 8) (c' : Int) : RuB x.begun n 0 c c' e := by
  refine ⟨h.nn, h.sz, ⟨h.now.1, fun j hj => by rw [show x.begun.now = x.now from rfl, h.now.2 j hj]; simp [fB]⟩, ⟨x.now, rfl, h.now⟩, ?_, h.ep⟩
  have hn := h.now.is
  obtain ⟨a1, a2, a3, a4, a5, a6⟩ := x
  have b1 := h.nn
  have b2 := h.sz
  have b3 := h.was
  have b4 := h.tc
  simp only at b1 b2 b3 b4 hn
  subst b1 b2 b3 b4 hn
  have := (ru_room n h1 h8 c a6).2
  simpa [Rp.begun] using this
theorem RuB.at_ (h : RuB x n i c c' e) (hi : i < n) (h8 : n ≤ 8) : x.now[i]? = some (.old (fullL c)) := by
  rw [h.now.2 i (by omega)]
  simp [fB, fC, hi]
theorem RuB.more (h : RuB x n i c c' e) (hi : i < n) (h8 : n ≤ 8) : RuB (x.put i (.new (fullL c'))) n (i + 1) c c' e := by
  obtain ⟨l, hl, hp⟩ := h.was
  have hs := Rp.put_slack (c := .new (fullL c')) (by rw [hl]; simp) (h.at_ hi h8)
  simp [Pk.isNew] at hs
  have hpt := h.now.put (i := i) (by omega) (.new (fullL c'))
  refine ⟨h.nn, h.sz, ⟨hpt.1, fun j hj => ?_⟩, ⟨l, hl, hp⟩, by have := h.slack; omega, h.ep⟩
  rw [hpt.2 j hj]
  unfold fB
  dsimp only
  by_cases e1 : j = i
  · subst e1; rw [if_pos rfl, if_pos (by omega)]
  · rw [if_neg e1]
    by_cases e2 : j < i
    · rw [if_pos e2, if_pos (by omega)]
    · rw [if_neg e2, if_neg (by omega)]
theorem RuB.abort (h : RuB x n i c c' e) : RuC x.abort n c e := by
  obtain ⟨l, hl, hp⟩ := h.was
  refine ⟨h.nn, h.sz, ?_, rfl, rfl, h.ep⟩
  show Pat (x.was.getD []) _
  rw [hl]
  exact hp
theorem RuB.comm (h : RuB x n n c c' e) : RuC x.comm n c' (e + 1) := by
  refine ⟨h.nn, h.sz, ⟨by show (x.now.map Pk.kept).length = 38; rw [List.length_map]; exact h.now.1, fun j hj => ?_⟩, rfl, rfl, ?_⟩
  · show (x.now.map Pk.kept)[j]? = _
    rw [List.getElem?_map, h.now.2 j hj]
    unfold fB fC
    by_cases e1 : j < n
    · simp [e1, Pk.kept]
    · simp [e1, Pk.kept]
  · have := h.ep
    show (if cntN x.touched 64 = 0 then x.epoch else x.epoch + 1) ≤ e + 1
    split <;> omega
end
/-- The first change: so many pages are there. -/
structure RuA (x : Rp) (i : Nat) : Prop where
  nn : x.n = 40
  sz : x.sz = 64
  now : Pat x.now (fun j => if j < i then .new (fullL 1) else .no)
  was : x.was ≠ none
  slack : x.slack + (i : Int) = 36
  ep : x.epoch = 0
theorem RuA.start : RuA (Rp.fresh 40 64).begun 0 := by
  refine ⟨rfl, rfl, ⟨by kernel_rfl, fun j hj => ?_⟩, by simp [Rp.begun], by kernel_rfl, rfl⟩
  show (List.replicate (capN 40 64) Pk.no)[j]? = _
  rw [show capN 40 64 = 38 from by kernel_rfl, List.getElem?_replicate, if_pos hj]
  simp
theorem RuA.more {x : Rp} {i : Nat} (h : RuA x i) (hi : i < 38) : (x.put i .zero).now[i]? = some .zero ∧ (x.put i .zero).slack = x.slack ∧ RuA ((x.put i .zero).put i (.new (fullL 1))) (i + 1) := by
  have hat : x.now[i]? = some .no := by rw [h.now.2 i hi]; simp
  have hs1 := Rp.put_slack (c := .zero) h.was hat
  simp [Pk.isNew] at hs1
  have hp1 := h.now.put hi .zero
  have hat2 : (x.put i .zero).now[i]? = some .zero := by rw [hp1.2 i hi]; simp
  have hs2 := Rp.put_slack (x := x.put i .zero) (c := .new (fullL 1)) h.was hat2
  simp [Pk.isNew] at hs2
  have hp2 := hp1.put (x := x.put i .zero) hi (.new (fullL 1))
  refine ⟨hat2, hs1, h.nn, h.sz, ⟨hp2.1, fun j hj => ?_⟩, h.was, by have := h.slack; omega, h.ep⟩
  rw [hp2.2 j hj]
  dsimp only
  by_cases e1 : j = i
  · subst e1; rw [if_pos rfl, if_pos (by omega)]
  · rw [if_neg e1, if_neg e1]
    by_cases e2 : j < i
    · rw [if_pos e2, if_pos (by omega)]
    · rw [if_neg e2, if_neg (by omega)]

end Go.Proofs.YtjlkpeplldckoaaGreatDoor

/- PagerReuses, walked. -/
namespace Go.Proofs.YtjlkpeplldckoaaGreatDoor
open Go.RowKit Go.Maps

/-- The pager of the law's own, in blocks made since. -/
structure Own (w W : World) (p : Nat) (F : Nat → Prop) (x : Rp) : Prop where
  gp : GP W p F x
  gr : Grew w W
  new : ∀ j, F j → w.heap.size ≤ j
section
variable {w W W' : World} {p : Nat} {F : Nat → Prop} {x y : Rp}
theorem Own.grew (h : Own w W p F x) (hg : Grew W W') : Own w W' p F x := ⟨h.gp.grew hg, Grew.trans h.gr hg, h.new⟩
theorem Own.to (h : Own w W p F x) (k : GPTo W W' p F y) : ∃ F', Own w W' p F' y := by
  obtain ⟨F', h1, h2, h3⟩ := k
  exact ⟨F', h1, chg_new h.gr h2 h.new, fun j hj => (h3 j hj).elim (h.new j) fun e => Nat.le_trans h.gr.size e⟩
theorem Own.chg (h : Own w W p F x) (hg : GP W' p F x) (hc : Chg F W W') : Own w W' p F x := ⟨hg, chg_new h.gr hc h.new, h.new⟩
end
theorem wrap_u8 {k : Nat} (h : k ≤ 255) : IntKind.u8.wrap (k : Int) = (k : Int) := by
  simp [IntKind.wrap, IntKind.bits, IntKind.signed]
  omega

set_option maxRecDepth 100000 in
set_option maxHeartbeats 6400000 in
theorem reuses_walk (w : World) (hT : TabAt 0 tab w) (n : Int) (hn : -9223372036854775808 ≤ n ∧ n ≤ 9223372036854775807) (r : Int) (hr : -9223372036854775808 ≤ r ∧ r ≤ 9223372036854775807) (A : Option Addr) (c : Nat) (ks : List Bool) (hm : ks.length ≤ maxLen) (hs : Sl w 1 A ks.length (ks.map Value.bool)) (ok : True) :
    Calls Tryz.prog 4 #[.int .i64 n, .int .i64 r, .slice A ks.length c] w fun e w' => e = .returned (.bool true) ∧ Grew w w' := by
  have HA := Lib.hid (fun u (hg : Grew w u) => pawake_any u (tab_chg hT hg id))
  have H := Lib.hid (And.intro hT hs)
  obtain ⟨n1, n2⟩ := hn
  obtain ⟨r1, r2⟩ := hr
  have hml : ks.length ≤ 9223372036854775807 := by simp only [maxLen] at hm; omega
  clear hT hs hm ok
  by_cases hg : n < 1 ∨ 8 < n ∨ r < 0 ∨ 30 < r ∨ 40 < ks.length
  · have t0 : (decide (n < 1) = true) ∨ (decide (n < 1) = false ∧ decide (8 < n) = true) ∨ (decide (n < 1) = false ∧ decide (8 < n) = false ∧ decide (r < 0) = true) ∨ (decide (n < 1) = false ∧ decide (8 < n) = false ∧ decide (r < 0) = false ∧ decide (30 < r) = true) ∨ (decide (n < 1) = false ∧ decide (8 < n) = false ∧ decide (r < 0) = false ∧ decide (30 < r) = false ∧ decide ((40 : Int) < (ks.length : Int)) = true) := by
      by_cases a : n < 1
      · exact .inl (decide_eq_true a)
      · by_cases b : 8 < n
        · exact .inr (.inl ⟨decide_eq_false a, decide_eq_true b⟩)
        · by_cases d : r < 0
          · exact .inr (.inr (.inl ⟨decide_eq_false a, decide_eq_false b, decide_eq_true d⟩))
          · by_cases f : 30 < r
            · exact .inr (.inr (.inr (.inl ⟨decide_eq_false a, decide_eq_false b, decide_eq_false d, decide_eq_true f⟩)))
            · exact .inr (.inr (.inr (.inr ⟨decide_eq_false a, decide_eq_false b, decide_eq_false d, decide_eq_false f, decide_eq_true (by omega)⟩)))
    clear hg
    rcases t0 with t1 | ⟨t1, t2⟩ | ⟨t1, t2, t3⟩ | ⟨t1, t2, t3, t4⟩ | ⟨t1, t2, t3, t4, t5⟩
    all_goals
      go_enter Tryz.func4, Tryz.ntmps4
      go_wp2_with (go_at_call 5; (refine (HA.out _ (Chg.refl _ _)).mono ?_); rintro e w2 ⟨rfl, hg2⟩; have H2 := Lib.hid hg2; clear hg2)
      go_ret
      exact ⟨rfl, H2.out⟩
  · obtain ⟨N, rfl⟩ := Int.eq_ofNat_of_zero_le (show 0 ≤ n by omega)
    obtain ⟨R, rfl⟩ := Int.eq_ofNat_of_zero_le (show 0 ≤ r by omega)
    have t1 : decide ((N : Int) < 1) = false := decide_eq_false (by omega)
    have t2 : decide ((8 : Int) < (N : Int)) = false := decide_eq_false (by omega)
    have t3 : decide ((R : Int) < 0) = false := decide_eq_false (by omega)
    have t4 : decide ((30 : Int) < (R : Int)) = false := decide_eq_false (by omega)
    have t5 : decide ((40 : Int) < (ks.length : Int)) = false := decide_eq_false (by omega)
    have hN1 : 1 ≤ N := by omega
    have hN8 : N ≤ 8 := by omega
    have hR3 : R ≤ 30 := by omega
    have hk4 : ks.length ≤ 40 := by omega
    clear hg n1 n2 r1 r2 hml
    go_enter Tryz.func4, Tryz.ntmps4
    go_wp2_with fail
    refine (dnew_any 40 64 _ (by omega) (by omega) (by omega) (by omega)).mono ?_
    rintro e w1 ⟨d, F1, rfl, hd, hg1, hn1⟩
    have hT1 := tab_chg H.out.1 hg1 id
    have hF0 : ¬ F1 0 := fun e => by have := hn1 0 e; have := tab_pos H.out.1; omega
    have H1 := Lib.hid (And.intro hd (And.intro hg1 (And.intro hn1 (And.intro hT1 hF0))))
    clear hd hg1 hn1 hT1 hF0
    go_wp2_with fail
    refine (gp_open_new 40 64 d F1 w1 H1.out.1 H1.out.2.2.2.1 H1.out.2.2.2.2 (by omega) (by omega)).mono ?_
    rintro e w2 ⟨p, F2, rfl, hp, hg2, hn2⟩
    have H2 := Lib.hid (show Own w w2 p F2 (Rp.fresh 40 64) from ⟨hp, Grew.trans H1.out.2.1 hg2, fun j hj => (hn2 j hj).elim (H1.out.2.2.1 j) fun e => Nat.le_trans H1.out.2.1.size e⟩)
    clear hp hg2 hn2
    go_wp2_with fail
    refine (gp_begin p F2 _ w2 H2.out.gp rfl).mono ?_
    rintro e w3 ⟨rfl, h3⟩
    obtain ⟨F3, hO3⟩ := H2.out.to h3
    have H3 := Lib.hid hO3
    clear h3 hO3
    go_wp2_with fail
    go_loopg [60] N (fun q v wr => ∃ (i : Nat) (F : Nat → Prop) (x : Rp), q = N - i ∧ i ≤ N ∧ v = .int .i64 i ∧ Own w wr p F x ∧ RuA x i)
    case atStart => exact ⟨0, F3, _, rfl, Nat.zero_le _, rfl, H3.out, RuA.start⟩
    case round =>
      obtain ⟨i, F, x, rfl, hi, rfl, hO, hA⟩ := hrel
      have HO := Lib.hid (And.intro hO hA)
      clear hO hA
      by_cases hlt : i < N
      · go_wp2_with fail
        refine (gp_alloc_any p F x _ HO.out.1.gp HO.out.2.was).mono ?_
        rintro e w4 (⟨i', h1, h2, rfl, h4⟩ | ⟨hne, -, -⟩)
        rotate_left
        · refine absurd ⟨by have := HO.out.2.slack; omega, List.mem_of_getElem? (i := i) ?_⟩ hne
          rw [HO.out.2.now.2 i (by omega)]
          simp
        obtain rfl : i = i' := by
          have hx := HO.out.2.now
          have hi38 : i' < 38 := by have := (List.getElem?_eq_some_iff.1 h1).1; rw [hx.1] at this; exact this
          rcases Nat.lt_trichotomy i i' with e | e | e
          · exact absurd rfl (h2 i .no e (by rw [hx.2 i (by omega)]; simp))
          · exact e
          · rw [hx.2 i' hi38] at h1
            simp [e] at h1
        obtain ⟨F4, hO4⟩ := HO.out.1.to h4
        obtain ⟨m1, m2, m3⟩ := HO.out.2.more (show i < 38 by omega)
        have H4 := Lib.hid (And.intro hO4 (And.intro m1 (And.intro m2 m3)))
        clear h1 h2 h4 hO4 m1 m2 m3
        go_wp2_with fail
        refine (full_any 1 w4).mono ?_
        rintro e w5 ⟨A5, c5, rfl, ho5, hg5⟩
        obtain ⟨g5, rfl, hgl5⟩ := own_block ho5 (by omega)
        have hO5 : OutR 0 w5 F4 5 (.slice (some ⟨g5, 0, none⟩) 64 c5) 64 (bv (fullL 1)) := ⟨own_base ho5 (Nat.zero_le _), fun q hq e => by have := (ho5.lt q hq).1; have := H4.out.1.gp.lt q e; omega⟩
        have hwr := gp_write_one p F4 (x.put i .zero) w5 i g5 c5 1 .zero (H4.out.1.gp.grew hg5) HO.out.2.was H4.out.2.1 rfl HO.out.2.sz (by omega) (by have := HO.out.2.slack; have := H4.out.2.2.1; omega) hO5
        have H5 := Lib.hid (And.intro hwr (H4.out.1.grew hg5))
        clear ho5 hg5 hO5 hwr hgl5
        go_wp2_with fail
        refine H5.out.1.mono ?_
        rintro e w6 ⟨rfl, h6⟩
        obtain ⟨F6, hO6⟩ := H5.out.2.to h6
        have H6 := Lib.hid hO6
        clear h6 hO6
        go_wp2_with fail
        go_roundg (N - (i + 1))
        case measure => omega
        case rel => exact ⟨i + 1, F6, _, rfl, by omega, by simp, H6.out, H4.out.2.2.2⟩
      · obtain rfl : i = N := by omega
        go_wp2_with fail
        refine (gp_commit p F x _ HO.out.1.gp HO.out.2.was (by rw [HO.out.2.ep]; omega)).mono ?_
        rintro e w4 ⟨rfl, h4⟩
        obtain ⟨F4, hO4⟩ := HO.out.1.to h4
        have hC4 : RuC x.comm i 1 1 := by
          refine ⟨HO.out.2.nn, HO.out.2.sz, ⟨by show (x.now.map Pk.kept).length = 38; rw [List.length_map]; exact HO.out.2.now.1, fun j hj => ?_⟩, rfl, rfl, ?_⟩
          · show (x.now.map Pk.kept)[j]? = _
            rw [List.getElem?_map, HO.out.2.now.2 j hj]
            unfold fC
            by_cases e1 : j < i
            · simp [e1, Pk.kept]
            · simp [e1, Pk.kept]
          · show (if cntN x.touched 64 = 0 then x.epoch else x.epoch + 1) ≤ 1
            rw [HO.out.2.ep]
            split <;> omega
        have hrm := gp_room p F4 _ w4 hO4.gp
        rw [hC4.room hN1 hN8] at hrm
        have H4 := Lib.hid (And.intro hO4 (And.intro hC4 hrm))
        clear h4 hO4 hC4 hrm hlt
        go_wp2_with fail
        refine H4.out.2.2.mono ?_
        rintro e w5 ⟨rfl, hg5⟩
        have H5 := Lib.hid (H4.out.1.grew hg5)
        clear hg5
        go_wp2_with fail
        obtain ⟨m, hm⟩ : ∃ m, i = m + 1 := ⟨i - 1, by omega⟩
        have hmi : (i : Int) - 1 = (m : Int) := by omega
        have HMm := Lib.hid hm
        clear hm
        go_loopg [14, 89] R (fun q lst v wr => ∃ (k : Nat) (F : Nat → Prop) (x : Rp) (cc : Int), q = R - k ∧ k ≤ R ∧ lst = .int .u8 cc ∧ v = .int .i64 k ∧ 0 ≤ cc ∧ cc ≤ 255 ∧ Own w wr p F x ∧ RuC x i cc (k + 1))
        case atStart => exact ⟨0, F4, _, 1, rfl, Nat.zero_le _, rfl, rfl, by omega, by omega, H5.out, H4.out.2.1⟩
        case round =>
          obtain ⟨k, F, x, cc, rfl, hk, rfl, rfl, hcc1, hcc2, hO, hC⟩ := hrel
          have HO := Lib.hid (And.intro hO hC)
          clear hO hC
          by_cases hltk : k < R
          · have w8 : IntKind.u8.wrap ((k : Int) + 2) = (k : Int) + 2 := by have := wrap_u8 (k := k + 2) (by omega); simpa using this
            go_wp2_with fail
            refine (gp_begin p F x _ HO.out.1.gp HO.out.2.was).mono ?_
            rintro e w6 ⟨rfl, h6⟩
            obtain ⟨F6, hO6⟩ := HO.out.1.to h6
            have H6 := Lib.hid (And.intro hO6 (HO.out.2.begun hN1 hN8 ((k : Int) + 2)))
            clear h6 hO6
            go_wp2_with fail
            go_loopg [99] i (fun q v wr => ∃ (j : Nat) (F : Nat → Prop) (x : Rp), q = i - j ∧ j ≤ i ∧ v = .int .i64 j ∧ Own w wr p F x ∧ RuB x i j cc ((k : Int) + 2) (k + 1))
            case atStart => exact ⟨0, F6, _, rfl, Nat.zero_le _, rfl, H6.out.1, H6.out.2⟩
            case round =>
              obtain ⟨j, F7, x7, rfl, hj, rfl, hO, hB⟩ := hrel
              have H7 := Lib.hid (And.intro hO hB)
              clear hO hB
              by_cases hltj : j < i
              · go_wp2_with fail
                refine (full_any ((k : Int) + 2) _).mono ?_
                rintro e w8 ⟨A8, c8, rfl, ho8, hg8⟩
                obtain ⟨g8, rfl, hgl8⟩ := own_block ho8 (by omega)
                have hO8 : OutR 0 w8 F7 5 (.slice (some ⟨g8, 0, none⟩) 64 c8) 64 (bv (fullL ((k : Int) + 2))) := ⟨own_base ho8 (Nat.zero_le _), fun q hq e => by have := (ho8.lt q hq).1; have := H7.out.1.gp.lt q e; omega⟩
                have hwr := gp_write_one p F7 x7 w8 j g8 c8 ((k : Int) + 2) (.old (fullL cc)) (H7.out.1.gp.grew hg8) (by obtain ⟨l, hl, -⟩ := H7.out.2.was; rw [hl]; simp) (H7.out.2.at_ hltj hN8) rfl H7.out.2.sz (by omega) (by have := H7.out.2.slack; omega) hO8
                have H8 := Lib.hid (And.intro hwr (H7.out.1.grew hg8))
                clear ho8 hg8 hO8 hwr hgl8
                go_wp2_with fail
                refine H8.out.1.mono ?_
                rintro e w9 ⟨rfl, h9⟩
                obtain ⟨F9, hO9⟩ := H8.out.2.to h9
                have H9 := Lib.hid hO9
                clear h9 hO9
                go_wp2_with fail
                go_roundg (i - (j + 1))
                case measure => omega
                case rel => exact ⟨j + 1, F9, _, rfl, by omega, by simp, H9.out, H7.out.2.more hltj hN8⟩
              · obtain rfl : j = i := by omega
                have hwas7 : x7.was ≠ none := by obtain ⟨l, hl, -⟩ := H7.out.2.was; rw [hl]; simp
                have hcase : (decide ((k : Int) < (ks.length : Int)) = true ∧ ∃ b, ks[k]? = some b ∧ b = false) ∨ (decide ((k : Int) < (ks.length : Int)) = true ∧ ∃ b, ks[k]? = some b ∧ b = true) ∨ decide ((k : Int) < (ks.length : Int)) = false := by
                  by_cases e : k < ks.length
                  · have e2 : ks[k]? = some ks[k] := List.getElem?_eq_getElem e
                    cases hb : ks[k] with
                    | false => rw [hb] at e2; exact .inl ⟨decide_eq_true (by omega), _, e2, rfl⟩
                    | true => rw [hb] at e2; exact .inr (.inl ⟨decide_eq_true (by omega), _, e2, rfl⟩)
                  · exact .inr (.inr (decide_eq_false (by omega)))
                have hab := gp_abort p F7 x7 _ H7.out.1.gp hwas7
                have hcm := gp_commit p F7 x7 _ H7.out.1.gp hwas7 (by have := H7.out.2.ep; omega)
                have HAC := Lib.hid (And.intro hab hcm)
                clear hab hcm hwas7
                obtain ⟨G, hG⟩ : ∃ G, decide (ks[k]? = some false) = G := ⟨_, rfl⟩
                have HGG := Lib.hid hG
                clear hG
                go_upto_region 31 with fail
                go_cut [119] from 109 to 119 (fun v wx => v = .bool G ∧ wx = wr)
                case first =>
                  rcases hcase with ⟨t6, b, hb, rfl⟩ | ⟨t6, b, hb, rfl⟩ | t6
                  · have hkl : k < ks.length := (List.getElem?_eq_some_iff.1 hb).1
                    obtain ⟨gK, oK, rfl, hgK, hxK⟩ := H.out.2.2 (by omega)
                    have ck := (H7.out.1.gr.cell (p := ⟨gK, oK + k, none⟩) hgK id).trans (hxK k (.bool false) (by simp [hb]))
                    have u1 : (k : Int) < (ks.length : Int) := by omega
                    have hGv := Lib.hid (show true = G from by rw [← HGG.out, hb]; rfl)
                    clear hb hxK
                    go_wp2_with fail
                    go_meet
                    exact ⟨by rw [← hGv.out], rfl⟩
                  · have hkl : k < ks.length := (List.getElem?_eq_some_iff.1 hb).1
                    obtain ⟨gK, oK, rfl, hgK, hxK⟩ := H.out.2.2 (by omega)
                    have ck := (H7.out.1.gr.cell (p := ⟨gK, oK + k, none⟩) hgK id).trans (hxK k (.bool true) (by simp [hb]))
                    have u1 : (k : Int) < (ks.length : Int) := by omega
                    have hGv := Lib.hid (show false = G from by rw [← HGG.out, hb]; rfl)
                    clear hb hxK
                    go_wp2_with fail
                    go_meet
                    exact ⟨by rw [← hGv.out], rfl⟩
                  · have hGv := Lib.hid (show false = G from by rw [← HGG.out, List.getElem?_eq_none (by have := of_decide_eq_false t6; omega)]; rfl)
                    have u1 : (ks.length : Int) ≤ (k : Int) := by have := of_decide_eq_false t6; omega
                    go_wp2_with fail
                    go_meet
                    exact ⟨by rw [← hGv.out], rfl⟩
                case rest =>
                  obtain ⟨rfl, rfl⟩ := hcut
                  clear hcase HGG
                  go_upto_if 119 with fail
                  go_cut [14] from 120 to 126 (fun v wx => ∃ (F9 : Nat → Prop) (y9 : Rp) (lc : Int), v = .int .u8 lc ∧ 0 ≤ lc ∧ lc ≤ 255 ∧ Own w wx p F9 y9 ∧ RuC y9 j lc (k + 1 + 1))
                  case first =>
                    cases G with
                    | true =>
                      go_wp2_with fail
                      refine HAC.out.1.mono ?_
                      rintro e w9 ⟨rfl, h9⟩
                      obtain ⟨F9, hO9⟩ := H7.out.1.to h9
                      have hR9 := H7.out.2.abort
                      have H9 := Lib.hid (And.intro hO9 (show RuC x7.abort j cc (k + 1 + 1) from ⟨hR9.nn, hR9.sz, hR9.now, hR9.was, hR9.tc, Nat.le_succ_of_le hR9.ep⟩))
                      clear h9 hO9 hR9
                      go_wp2_with fail
                      go_meet
                      exact ⟨F9, _, cc, rfl, hcc1, hcc2, H9.out.1, H9.out.2⟩
                    | false =>
                      go_wp2_with fail
                      refine HAC.out.2.mono ?_
                      rintro e w9 ⟨rfl, h9⟩
                      obtain ⟨F9, hO9⟩ := H7.out.1.to h9
                      have H9 := Lib.hid (And.intro hO9 H7.out.2.comm)
                      clear h9 hO9
                      go_wp2_with fail
                      go_meet
                      exact ⟨F9, _, (k : Int) + 2, rfl, by omega, by omega, H9.out.1, H9.out.2⟩
                  case rest =>
                    obtain ⟨F9, y9, lc, rfl, hlc1, hlc2, hO9, hR9⟩ := hcut
                    have H9 := Lib.hid (And.intro hO9 hR9)
                    clear hO9 hR9 HAC H7
                    go_wp2_with fail
                    have hrd := gp_read p m F9 y9 wc (.old (fullL lc)) H9.out.1.gp (by rw [H9.out.2.now.2 m (by have := HMm.out; omega)]; unfold fC; rw [if_pos (by have := HMm.out; omega)]) rfl
                    rw [H9.out.2.sz] at hrd
                    have HRd := Lib.hid hrd
                    clear hrd
                    go_wp2_with fail
                    refine HRd.out.mono ?_
                    rintro e w10 ⟨A10, c10, rfl, ho10, -, -, hp10, hc10, -⟩
                    rw [H9.out.2.sz] at ho10 ⊢
                    have ho10' : w10.ownsRow _ 5 1 (.slice A10 64 c10) 64 (bv (fullL lc)) := ho10
                    have hO10 := H9.out.1.chg hp10 hc10
                    have H10 := Lib.hid (And.intro hO10 ho10')
                    have hbq : ((strOfNums (fullL lc)).toList == (strOfNums (fullL lc)).toList) = true := by simp
                    clear hp10 hc10 ho10 ho10' hO10
                    go_upto_region 38 with fail
                    go_cut [149] from 134 to 149 (fun v wx => v = .bool false ∧ Grew w10 wx)
                    case first =>
                      refine wp_region_held_drew (S := fun W' => Grew w10 W') (by kernel_rfl) ((Chg.refl NoF w10).drew) (fun hHeld => ?_)
                      refine wpAnyH_take (i := 0) (v := ?_) rfl (by kernel_rfl) (by kernel_rfl) (by kernel_rfl) (fun _ _ _ h => h) (Or.inl ⟨by rfl, ?_⟩) hHeld ?_
                      rotate_left
                      · (intro w hSw; (try dsimp only at hSw); go_simp) <;> with_reducible rfl
                      (try simp only [Act.put, List.setIfInBounds_toArray, List.set_cons_zero, List.set_cons_succ, List.getElem_toArray, List.getElem_cons_zero, List.getElem_cons_succ])
                      refine wpAnyH_take (i := 2) (v := ?_) rfl (by kernel_rfl) (by kernel_rfl) (by kernel_rfl) (fun _ _ _ h => h) (Or.inl ⟨by rfl, ?_⟩) hHeld ?_
                      rotate_left
                      · (intro w hSw; (try dsimp only at hSw); go_simp) <;> with_reducible rfl
                      (try simp only [Act.put, List.setIfInBounds_toArray, List.set_cons_zero, List.set_cons_succ, List.getElem_toArray, List.getElem_cons_zero, List.getElem_cons_succ])
                      refine wpAnyH_ready (rs := [1]) (by kernel_rfl) (by simp) ?_
                      refine AllReadyH.cons rfl (fun K hK => ?_) AllReadyH.nil
                      go_simp
                      go_at_call 12
                      refine (gp_room p F9 y9 _ (H10.out.1.gp.grew ((Chg.refl _ _).drew))).mono ?_
                      rw [H9.out.2.room hN1 hN8]
                      rintro e w11 ⟨rfl, hg11⟩
                      have H11 := Lib.hid (Grew.trans ((Chg.refl NoF w10).drew) hg11)
                      clear hg11
                      refine hK.out _ _ H11.out (fun hHeld => ?_)
                      clear hK K
                      (try simp only [Act.put, List.setIfInBounds_toArray, List.set_cons_zero, List.set_cons_succ, List.getElem_toArray, List.getElem_cons_zero, List.getElem_cons_succ])
                      refine wpAnyH_take (i := 3) (v := ?_) rfl (by kernel_rfl) (by kernel_rfl) (by kernel_rfl) (fun _ _ _ h => h) (Or.inl ⟨by rfl, ?_⟩) hHeld ?_
                      rotate_left
                      · (intro w hSw; (try dsimp only at hSw); go_simp) <;> with_reducible rfl
                      (try simp only [Act.put, List.setIfInBounds_toArray, List.set_cons_zero, List.set_cons_succ, List.getElem_toArray, List.getElem_cons_zero, List.getElem_cons_succ])
                      refine wpAnyH_take (i := 4) (v := ?_) rfl (by kernel_rfl) (by kernel_rfl) (by kernel_rfl) (fun _ _ _ h => h) (Or.inl ⟨by rfl, ?_⟩) hHeld ?_
                      rotate_left
                      · (intro w hSw; (try dsimp only at hSw); go_simp) <;> with_reducible rfl
                      (try simp only [Act.put, List.setIfInBounds_toArray, List.set_cons_zero, List.set_cons_succ, List.getElem_toArray, List.getElem_cons_zero, List.getElem_cons_succ])
                      refine wpAnyH_take (i := 5) (v := ?_) rfl (by kernel_rfl) (by kernel_rfl) (by kernel_rfl) (fun _ _ _ h => h) (Or.inl ⟨by rfl, ?_⟩) hHeld ?_
                      rotate_left
                      · (intro w hSw; (try dsimp only at hSw); go_simp) <;> with_reducible rfl
                      (try simp only [Act.put, List.setIfInBounds_toArray, List.set_cons_zero, List.set_cons_succ, List.getElem_toArray, List.getElem_cons_zero, List.getElem_cons_succ])
                      refine wpAnyH_take (i := 6) (v := ?_) rfl (by kernel_rfl) (by kernel_rfl) (by kernel_rfl) (fun _ _ _ h => h) (Or.inl ⟨by rfl, ?_⟩) hHeld ?_
                      rotate_left
                      · (intro w hSw; (try dsimp only at hSw); go_simp) <;> with_reducible rfl
                      (try simp only [Act.put, List.setIfInBounds_toArray, List.set_cons_zero, List.set_cons_succ, List.getElem_toArray, List.getElem_cons_zero, List.getElem_cons_succ])
                      refine wpAnyH_take (i := 7) (v := ?_) rfl (by kernel_rfl) (by kernel_rfl) (by kernel_rfl) (fun _ _ _ h => h) (Or.inl ⟨by rfl, ?_⟩) hHeld ?_
                      rotate_left
                      · (intro w hSw; (try dsimp only at hSw); go_simp) <;> with_reducible rfl
                      (try simp only [Act.put, List.setIfInBounds_toArray, List.set_cons_zero, List.set_cons_succ, List.getElem_toArray, List.getElem_cons_zero, List.getElem_cons_succ])
                      refine wpAnyH_take (i := 8) (v := ?_) rfl (by kernel_rfl) (by kernel_rfl) (by kernel_rfl) (fun _ _ _ h => h) (Or.inl ⟨by rfl, ?_⟩) hHeld ?_
                      rotate_left
                      · (intro w hSw; (try dsimp only at hSw); go_simp) <;> with_reducible rfl
                      (try simp only [Act.put, List.setIfInBounds_toArray, List.set_cons_zero, List.set_cons_succ, List.getElem_toArray, List.getElem_cons_zero, List.getElem_cons_succ])
                      refine wpAnyH_take (i := 9) (v := ?_) rfl (by kernel_rfl) (by kernel_rfl) (by kernel_rfl) (fun _ _ _ h => h) (Or.inl ⟨by rfl, ?_⟩) hHeld ?_
                      rotate_left
                      · (intro w hSw; (try dsimp only at hSw); go_simp) <;> with_reducible rfl
                      (try simp only [Act.put, List.setIfInBounds_toArray, List.set_cons_zero, List.set_cons_succ, List.getElem_toArray, List.getElem_cons_zero, List.getElem_cons_succ])
                      refine wpAnyH_take (i := 10) (v := ?_) rfl (by kernel_rfl) (by kernel_rfl) (by kernel_rfl) (fun _ _ _ h => h) (Or.inl ⟨by rfl, ?_⟩) hHeld ?_
                      rotate_left
                      · (intro w hSw; (try dsimp only at hSw); have hcv := conv_own (own_grew H10.out.2 hSw) (by omega); go_simp) <;> with_reducible rfl
                      (try simp only [Act.put, List.setIfInBounds_toArray, List.set_cons_zero, List.set_cons_succ, List.getElem_toArray, List.getElem_cons_zero, List.getElem_cons_succ])
                      refine wpAnyH_take (i := 11) (v := ?_) rfl (by kernel_rfl) (by kernel_rfl) (by kernel_rfl) (fun _ _ _ h => h) (Or.inl ⟨by rfl, ?_⟩) hHeld ?_
                      rotate_left
                      · (intro w hSw; (try dsimp only at hSw); go_simp) <;> with_reducible rfl
                      (try simp only [Act.put, List.setIfInBounds_toArray, List.set_cons_zero, List.set_cons_succ, List.getElem_toArray, List.getElem_cons_zero, List.getElem_cons_succ])
                      refine wpAnyH_ready (rs := [12]) (by kernel_rfl) (by simp) ?_
                      refine AllReadyH.cons rfl (fun K hK => ?_) AllReadyH.nil
                      go_simp
                      go_at_call 16
                      refine (full_any lc _).mono ?_
                      rintro e w12 ⟨A12, c12, rfl, ho12, hg12⟩
                      have H12 := Lib.hid (Grew.trans H11.out hg12)
                      have hcv2 := conv_own ho12 (by omega)
                      clear ho12 hg12
                      refine hK.out _ _ H12.out (fun hHeld => ?_)
                      clear hK K
                      (try simp only [Act.put, List.setIfInBounds_toArray, List.set_cons_zero, List.set_cons_succ, List.getElem_toArray, List.getElem_cons_zero, List.getElem_cons_succ])
                      refine wpAnyH_ready (rs := [13]) (by kernel_rfl) (by simp) ?_
                      refine AllReadyH.cons rfl (fun K hK => ?_) AllReadyH.nil
                      go_simp
                      refine hK.out _ _ H12.out (fun hHeld => ?_)
                      clear hK K
                      (try simp only [Act.put, List.setIfInBounds_toArray, List.set_cons_zero, List.set_cons_succ, List.getElem_toArray, List.getElem_cons_zero, List.getElem_cons_succ])
                      refine wpAnyH_take (i := 14) (v := ?_) rfl (by kernel_rfl) (by kernel_rfl) (by kernel_rfl) (fun _ _ _ h => h) (Or.inl ⟨by rfl, ?_⟩) hHeld ?_
                      rotate_left
                      · (intro w hSw; (try dsimp only at hSw); go_simp) <;> with_reducible rfl
                      (try simp only [Act.put, List.setIfInBounds_toArray, List.set_cons_zero, List.set_cons_succ, List.getElem_toArray, List.getElem_cons_zero, List.getElem_cons_succ])
                      refine wpAnyH_take (i := 15) (v := ?_) rfl (by kernel_rfl) (by kernel_rfl) (by kernel_rfl) (fun _ _ _ h => h) (Or.inl ⟨by rfl, ?_⟩) hHeld ?_
                      rotate_left
                      · (intro w hSw; (try dsimp only at hSw); go_simp) <;> with_reducible rfl
                      (try simp only [Act.put, List.setIfInBounds_toArray, List.set_cons_zero, List.set_cons_succ, List.getElem_toArray, List.getElem_cons_zero, List.getElem_cons_succ])
                      refine wpAnyH_done (by kernel_rfl) ?_ _
                      clear hHeld
                      go_wp2_with fail
                      go_meet
                      exact ⟨rfl, H12.out⟩
                    case rest =>
                      obtain ⟨rfl, hg12⟩ := hcut
                      have H12 := Lib.hid hg12
                      clear hg12
                      go_wp2_with fail
                      go_roundg (R - (k + 1))
                      case measure => omega
                      case rel => exact ⟨k + 1, F9, y9, lc, rfl, by omega, rfl, by simp, by omega, by omega, H10.out.1.grew H12.out, H9.out.2⟩

          · obtain rfl : k = R := by omega
            go_wp2_with (go_at_call 5; (refine (HA.out _ HO.out.1.gr).mono ?_); rintro e w6 ⟨rfl, hg6⟩; have H6 := Lib.hid hg6; clear hg6)
            go_ret
            exact ⟨rfl, Grew.trans HO.out.1.gr H6.out⟩

end Go.Proofs.YtjlkpeplldckoaaGreatDoor

/- What a law's arguments are, opened: a slice of whatever element, record by record. No program stands in this text. -/
namespace Go.Proofs.YtjlkpeplldckoaaGreatDoor
open Go.ChangeShapes Go.WideShapes Go.ChangeAt Go.RowKit Go.Deep

theorem choose_list {α : Type} (P : Nat → α → Prop) : ∀ (n : Nat), (∀ i, i < n → ∃ x, P i x) → ∃ l : List α, l.length = n ∧ ∀ i x, l[i]? = some x → P i x
  | 0, _ => ⟨[], rfl, fun i x h => by simp at h⟩
  | n + 1, h => by
    obtain ⟨l, hl, hp⟩ := choose_list P n (fun i hi => h i (by omega))
    obtain ⟨x, hx⟩ := h n (by omega)
    refine ⟨l ++ [x], by simp [hl], fun i y hy => ?_⟩
    by_cases hi : i < l.length
    · rw [List.getElem?_append_left hi] at hy
      exact hp i y hy
    · rw [List.getElem?_append_right (by omega)] at hy
      have h0 : i - l.length = 0 := by
        rcases Nat.eq_zero_or_pos (i - l.length) with h0 | h0
        · exact h0
        · rw [List.getElem?_eq_none (by simp; omega)] at hy; cases hy
      rw [h0] at hy
      simp at hy
      subst hy
      obtain rfl : i = n := by omega
      exact hx

theorem wf_bounds {n : Int} (h : (Lit.int .i64 n).wf = true) : -9223372036854775808 ≤ n ∧ n ≤ 9223372036854775807 := by
  simpa [Lit.wf, IntKind.min, IntKind.max, IntKind.signed, IntKind.bits] using h

section
variable {H : Type} {enc : TypeId × Value → H} {P : Program} {w : World} {base : Nat} {spare : Nat → Bool} {held : Bool}

/-- A slice whose elements have s cells each: for each element its cells, and that they read. -/
theorem open_elems {t e : TypeId} {fuel s len cap : Nat} {A : Option Addr} {x : DataW H × List MemPlace} (ht : P.underlying t = some (.slice e)) (hC : P.cellsOf e = s) (hs : 0 < s)
    (h : DataW.trod enc P w base spare held fuel t [.slice A len cap] = some x) :
    len ≤ maxLen ∧ (len = 0 ∨ ∃ b off, A = some ⟨b, off, none⟩ ∧ b < w.heap.size ∧ ∀ i, i < len → ∃ (cs : List Value) (n : Nat) (y : DataW H × List MemPlace), cs.length = s ∧ (∀ j, j < s → w.cell? ⟨b, off + (i * s + j), none⟩ = cs[j]?) ∧ DataW.trod enc P w base spare held n e cs = some y) := by
  rcases open_slice ht h with ⟨hcs, _⟩ | ⟨a, len', cap', m, n, D, Pl, hcs, hb, hl, hm, hmm, hx, hi⟩
  · simp at hcs
    obtain ⟨rfl, rfl, rfl⟩ := hcs
    exact ⟨Nat.zero_le _, .inl rfl⟩
  · simp at hcs
    obtain ⟨rfl, rfl, rfl⟩ := hcs
    refine ⟨Nat.le_trans hl hm, ?_⟩
    rcases Nat.eq_zero_or_pos len with h0 | h0
    · exact .inl h0
    right
    have hlm : len ≤ m := by rw [hmm]; split <;> omega
    obtain ⟨b, off, spot⟩ := a
    have cellAt : ∀ i, i < len → ∃ cs' y, cs'.length = s ∧ (∀ j, j < s → w.cell? (Addr.add ⟨b, off, spot⟩ (i * s + j)) = cs'[j]?) ∧ DataW.trod enc P w base spare held n e cs' = some y := by
      intro i hil
      obtain ⟨cs', hc, ht'⟩ := hi i (by omega)
      rw [hC] at hc
      obtain ⟨_, hcl, hat⟩ := World.cells?_some hc
      refine ⟨cs', _, hcl, fun j hj => ?_, ht'⟩
      rw [← hat j hj]
      congr 1
      unfold Addr.add
      by_cases h1 : i * s = 0 <;> by_cases h2 : j = 0 <;> simp [h1, h2, Nat.add_assoc]
    have hspot : spot = none := by
      obtain ⟨cs', y, hcl, hat, _⟩ := cellAt 0 h0
      have := hat 0 hs
      have h0' : cs'[0]? = some (cs'[0]'(by omega)) := List.getElem?_eq_getElem (by omega)
      rw [h0'] at this
      simpa [Addr.add] using World.cell?_spot this
    subst hspot
    refine ⟨b, off, rfl, ?_, fun i hil => ?_⟩
    · obtain ⟨cs', y, hcl, hat, _⟩ := cellAt 0 h0
      have := hat 0 hs
      have h0' : cs'[0]? = some (cs'[0]'(by omega)) := List.getElem?_eq_getElem (by omega)
      rw [h0'] at this
      simpa [Addr.add] using World.block_lt_of_cell? w _ this
    · obtain ⟨cs', y, hcl, hat, ht'⟩ := cellAt i hil
      refine ⟨cs', n, y, hcl, fun j hj => ?_, ht'⟩
      have := hat j hj
      rw [Addr.add_lit] at this
      exact this
end

end Go.Proofs.YtjlkpeplldckoaaGreatDoor

/- A law's argument that is a slice of bools. No program stands in this text. -/
namespace Go.Proofs.YtjlkpeplldckoaaGreatDoor
open Go.ChangeShapes Go.WideShapes Go.ChangeAt Go.RowKit Go.Deep

theorem bools_opened {H : Type} {enc : TypeId × Value → H} {P : Program} {w : World} {base : Nat} {spare : Nat → Bool} {held : Bool} {t e : TypeId} {fuel len cap : Nat} {A : Option Addr} {x : DataW H × List MemPlace}
    (ht : P.underlying t = some (.slice e)) (he : P.underlying e = some .bool) (hC : P.cellsOf e = 1) (h : DataW.trod enc P w base spare held fuel t [.slice A len cap] = some x) :
    ∃ l : List Bool, len = l.length ∧ len ≤ maxLen ∧ Sl w 1 A l.length (l.map Value.bool) ∧ True := by
  obtain ⟨hm, hc⟩ := open_elems ht (s := 1) hC (by omega) h
  rcases hc with rfl | ⟨b, off, rfl, hb, hi⟩
  · exact ⟨[], rfl, hm, Sl.nil _ _ _, trivial⟩
  · obtain ⟨l, hl, hp⟩ := choose_list (fun i (r : Bool) => w.cell? ⟨b, off + i, none⟩ = some (.bool r)) len (fun i hil => by
      obtain ⟨cs, n, y, hcl, hat, hT⟩ := hi i hil
      match cs, hcl with
      | [c], _ =>
        obtain ⟨r, e1, -⟩ := DataW.trod_bool he hT
        simp at e1
        subst e1
        have := hat 0 (by omega)
        exact ⟨r, by simpa using this⟩)
    refine ⟨l, hl.symm, hm, ⟨by simp, fun _ => ⟨b, off, rfl, hb, fun j u hu => ?_⟩⟩, trivial⟩
    rw [List.getElem?_map] at hu
    cases hj : l[j]? with
    | none => rw [hj] at hu; cases hu
    | some r => rw [hj] at hu; simp at hu; subst hu; exact hp j r hj

end Go.Proofs.YtjlkpeplldckoaaGreatDoor

/- A law's argument that is a slice of int. No program stands in this text. -/
namespace Go.Proofs.YtjlkpeplldckoaaGreatDoor
open Go.ChangeShapes Go.WideShapes Go.ChangeAt Go.RowKit Go.Deep

theorem ints_opened {H : Type} {enc : TypeId × Value → H} {P : Program} {w : World} {base : Nat} {spare : Nat → Bool} {held : Bool} {t e : TypeId} {fuel len cap : Nat} {A : Option Addr} {x : DataW H × List MemPlace}
    (ht : P.underlying t = some (.slice e)) (he : P.underlying e = some (.int .i64)) (hC : P.cellsOf e = 1) (h : DataW.trod enc P w base spare held fuel t [.slice A len cap] = some x) :
    ∃ l : List Int, len = l.length ∧ len ≤ maxLen ∧ Sl w 1 A l.length (l.map (Value.int .i64)) ∧ ∀ n ∈ l, -9223372036854775808 ≤ n ∧ n ≤ 9223372036854775807 := by
  obtain ⟨hm, hc⟩ := open_elems ht (s := 1) hC (by omega) h
  rcases hc with rfl | ⟨b, off, rfl, hb, hi⟩
  · exact ⟨[], rfl, hm, Sl.nil _ _ _, fun r hr => by cases hr⟩
  · obtain ⟨l, hl, hp⟩ := choose_list (fun i (r : Int) => (-9223372036854775808 ≤ r ∧ r ≤ 9223372036854775807) ∧ w.cell? ⟨b, off + i, none⟩ = some (.int .i64 r)) len (fun i hil => by
      obtain ⟨cs, n, y, hcl, hat, hT⟩ := hi i hil
      match cs, hcl with
      | [c], _ =>
        obtain ⟨r, e1, -, w1⟩ := DataW.trod_int he hT
        simp at e1
        subst e1
        have := hat 0 (by omega)
        exact ⟨r, wf_bounds w1, by simpa using this⟩)
    refine ⟨l, hl.symm, hm, ⟨by simp, fun _ => ⟨b, off, rfl, hb, fun j u hu => ?_⟩⟩, fun r hr => ?_⟩
    · rw [List.getElem?_map] at hu
      cases hj : l[j]? with
      | none => rw [hj] at hu; cases hu
      | some r => rw [hj] at hu; simp at hu; subst hu; exact (hp j r hj).2
    · obtain ⟨i, hi, rfl⟩ := List.getElem_of_mem hr
      exact (hp i _ (List.getElem?_eq_getElem hi)).1

end Go.Proofs.YtjlkpeplldckoaaGreatDoor

/- The laws: the table that the rows list, in a walk's words; a world that meets it. -/
namespace Go.Proofs.YtjlkpeplldckoaaGreatDoor
open Go.RowKit

def tabI : List Int := tab.map Int.ofNat
/-- The listed variable's name. -/
def laidName : String := Rows.pagerPlacesRow.named.headD (toString 0)
theorem laid_is {H : Type} : (Rows.laid_math_bits_deBruijn64tab : DataW H) = Lib.tabData .u8 tabI := rfl
theorem tab_of_laid {W : World} (h : laidMetH Tryz.prog Rows.pagerPlacesRow.laid W) : TabAt 0 tab W := by
  have h' : laidMet Tryz.prog [(laidName, Lib.tabData .u8 tabI)] W := h
  have hg : Tryz.prog.globalNamed laidName = some 0 := by kernel_rfl
  have ht := Lib.tabIs_of_head (t := 124) (e := 5) (n := 64) hg (by kernel_rfl) Tryz.underlying124 Tryz.underlying5 (by kernel_rfl) (by kernel_rfl) h'
  intro j hj
  have := ht.cell hg j (by simpa [tabI] using hj)
  rw [this]
  congr 2
  unfold tabI
  rw [List.getD_eq_getElem?_getD, List.getElem?_map, List.getD_eq_getElem?_getD]
  cases tab[j]? <;> rfl

noncomputable def laidWorld (os : Os) : World :=
  { World.holding Tryz.prog os ⟨#[], #[], []⟩ with heap := (World.holding Tryz.prog os ⟨#[], #[], []⟩).heap.modify 0 fun
      | .cells _ t frozen => .cells (tabI.map fun z => Value.int .u8 z).toArray t frozen
      | o => o }
theorem laidWorld_met (os : Os) (args : Array Value) : laidMetH Tryz.prog Rows.pagerPlacesRow.laid ((laidWorld os).forCall (fun _ _ => 0) ⟨#[], args, []⟩).memory :=
  laidMetH_of_parts (laidMet_of_run' 8 (by kernel_rfl) (by kernel_rfl)) (by kernel_rfl)

end Go.Proofs.YtjlkpeplldckoaaGreatDoor

namespace Go.Proofs.YtjlkpeplldckoaaGreatDoor
open Go.ChangeShapes Go.WideShapes Go.ChangeAt Go.RowKit
set_option linter.unusedVariables false

namespace lawPagerReuses
theorem own : ownKnob Tryz.prog.godebug = none := by kernel_rfl
theorem laidOut : laidOutB Tryz.prog = true := by kernel_rfl
set_option maxRecDepth 100000 in
theorem lifted (os : Os) (started : os.Started) (H : Type) (enc : TypeId × Value → H) :
    ReturnsInHanded {} Tryz.checked os 4 .any (fun w args => (Rows.pagerReusesSpec.pre enc Tryz.prog Tryz.f4 [] false w args ∧ laidMetH Tryz.prog Rows.pagerReusesRow.laid w) ∧ sizedMet enc Tryz.prog Tryz.f4 (OpenSpec.ofChange Rows.pagerReusesSpec) false w args) (Rows.pagerReusesSpec.post enc Tryz.prog Tryz.f4 false true false false) := by
  refine returnsInHanded_of_change_and (C := Tryz.checked) (X := fun w _ => laidMetH Tryz.prog Rows.pagerReusesRow.laid w) (fun _ _ _ hh h => h.of_heap hh) own started (by kernel_rfl) Tryz.func4
    (ChangeSpec.witness_at (enc := enc) (C := Tryz.checked) (os := os) (X := fun w _ => laidMetH Tryz.prog Rows.pagerReusesRow.laid w) false (laidWorld os) #[.int .i64 0, .int .i64 0, .slice none 0 0] 8 rfl (by kernel_rfl) (by kernel_rfl) (by kernel_rfl) (by kernel_rfl) (by kernel_rfl) (laidWorld_met os _)) ?_
  intro W base args ds gs before hval0 hW _ _ hL0 _
  have hL : laidMetH Tryz.prog Rows.pagerReusesRow.laid W := hL0
  have hT0 := tab_of_laid hL
  have hval : ∀ (j : Nat) t v, Tryz.f4.params[j]? = some t → args[j]? = some v → Value.okWide Tryz.prog W .any base t v := hval0
  have hW1 := hW
  obtain ⟨p, q, hA0, hV, rfl, hfz, hnd⟩ := hW
  have hA : DataW.TrodAll enc Tryz.prog W 0 (fun _ => true) true Tryz.f4.params.toList args.toList ds p := hA0
  rw [Tryz.params4] at hA hval
  obtain ⟨v0, vs0, d0, ds0, p0, q0, hargs, rfl, rfl, h0, r0⟩ := trodAll_cons hA
  obtain ⟨v1, vs1, d1, ds1, p1, q1, rfl, rfl, rfl, h1, r1⟩ := trodAll_cons r0
  obtain ⟨v2, vs2, d2, ds2, p2, q2, rfl, rfl, rfl, h2, r2⟩ := trodAll_cons r1
  obtain ⟨rfl, rfl, rfl⟩ := trodAll_nil r2
  obtain rfl : args = #[v0, v1, v2] := by cases args; simp_all
  obtain ⟨rfl, rfl⟩ := trodVars_none hV
  obtain ⟨a0, rfl, rfl, rfl, w0⟩ := open_int Tryz.underlying3 (hval 0 3 v0 rfl rfl) h0
  obtain ⟨a1, rfl, rfl, rfl, w1⟩ := open_int Tryz.underlying3 (hval 1 3 v1 rfl rfl) h1
  obtain ⟨A2, n2, c2, rfl⟩ := okWide_slice Tryz.underlying33 (hval 2 33 v2 rfl rfl)
  have k2 := h2
  have lt2 : ∀ x ∈ p2, x.block < W.heap.size := by obtain ⟨m, hm⟩ := k2; exact DataW.trod_lt m _ _ _ hm
  obtain ⟨fu2, hf2⟩ := h2
  obtain ⟨l2, rfl, hm2, hs2, ok2⟩ := bools_opened Tryz.underlying33 Tryz.underlying4 (by kernel_rfl) (by simpa [Value.cells] using hf2)
  clear hA0 hval0
  refine (reuses_walk W hT0 a0 (wf_bounds w0) a1 (wf_bounds w1) A2 c2 l2 hm2 hs2 ok2).mono fun e W1 ⟨he, hg⟩ => ?_
  subst he
  have bel := hg.below
  exact ⟨_, rfl, _, _, _, [], _, [], hW1, trodAll_mk1 (shut_bool Tryz.underlying4 _), (trodAll_cons_mk (shut_int Tryz.underlying3 w0) (trodAll_cons_mk (shut_int Tryz.underlying3 w1) (trodAll_cons_mk (Below.trod laidOut (by kernel_rfl) (of_decide_eq_true (by kernel_rfl)) k2 bel lt2) trodAll_mk0))), rfl, bel.frame _, fun h => by cases h⟩
theorem over : Rows.pagerReusesRow.holds Tryz.pinned (OpenSpec.ofChange Rows.pagerReusesSpec) :=
  OpenClaim.holds_of_wide 4 Tryz.f4 rfl rfl rfl rfl rfl rfl rfl ⟨rfl, rfl, rfl, rfl, rfl⟩ rfl rfl rfl rfl rfl (by kernel_rfl) Tryz.func4 (by kernel_rfl)
    (of_decide_eq_true (by kernel_rfl)) (by unfold Func.isWrapper; first | (rw [if_pos (by decide +kernel)]; kernel_rfl) | (rw [if_neg (by decide +kernel)]; exact ⟨rfl, rfl⟩))
    (fun os started H enc _ => lifted os started H enc)
/-- The statement, a card whose listed variable is tied to the program. -/
theorem proved : Rows.PagerReusesCardSaid :=
  Claim7.holds_tied_plain_at .later [] [.data] true Rows.pagerReusesCard.stood.harness false over (fun _ h => by cases h) (by kernel_rfl) (fun _ h => by cases h) pagerReuses_row_tie rfl ⟨rfl, rfl⟩ (by kernel_rfl) rfl
    (fun f fn hf hfn => by
      obtain rfl : f = 4 := Option.some.inj ((show Tryz.prog.funcNamed Rows.pagerReusesRow.func = some 4 by kernel_rfl).symm.trans hf) |>.symm
      obtain rfl : fn = Tryz.f4 := (Option.some.inj (Tryz.func4.symm.trans hfn)).symm
      refine ⟨by kernel_rfl, fun j t ht => ?_⟩
      have hall : ∀ t ∈ Tryz.f4.params.toList, Tryz.prog.wantsStandIn t = false := by
        rw [Tryz.params4]
        intro t ht
        simp only [List.mem_cons, List.not_mem_nil, or_false] at ht
        rcases ht with rfl | rfl | rfl <;> kernel_rfl
      exact hall t (by rw [Array.mem_toList_iff]; exact Array.mem_of_getElem? ht))
    (by kernel_rfl)
#print axioms proved
end lawPagerReuses

end Go.Proofs.YtjlkpeplldckoaaGreatDoor
