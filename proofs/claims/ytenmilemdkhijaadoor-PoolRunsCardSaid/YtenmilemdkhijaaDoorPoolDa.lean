/- The pool: the iterator over its rows. -/
import Derived.Test.YtenmilemdkhijaaDoorPoolP
import Derived.Test.YtenmilemdkhijaaDoorRangeMW
namespace Go.Proofs.YtenmilemdkhijaaDoor
open Go.RowKit
attribute [local go_sem] Oper.semAt_some

/-- A row of free numbers, as long as it is. -/
structure RunAt (x : List Bool) (j m : Nat) : Prop where
  pos : 0 < m
  all : ∀ t, j ≤ t → t < j + m → x.getD t false = true
  stop : x.getD (j + m) false = false

theorem getD_lt {x : List Bool} {t : Nat} (h : x.getD t false = true) : t < x.length := by
  apply Nat.lt_of_not_le
  intro h2
  rw [List.getD_eq_getElem?_getD, List.getElem?_eq_none h2] at h
  cases h
theorem RunAt.le {x : List Bool} {j m : Nat} (h : RunAt x j m) : j + m ≤ x.length := by
  have := getD_lt (h.all (j + m - 1) (by have := h.pos; omega) (by have := h.pos; omega))
  have := h.pos
  omega

/-- Where the rows stand. -/
def RunSt (x : List Bool) (p i first many : Nat) : Prop :=
  (many = 0 ∧ i = 0 ∧ p = 0) ∨ (0 < many ∧ first + many = i ∧ nxt x p = some first ∧ ∀ t, first ≤ t → t < first + many → x.getD t false = true)
theorem RunSt.more {x : List Bool} {p i first many : Nat} (h : RunSt x p i first many) (hm : 0 < many) (hx : x.getD i false = true) : RunSt x p (i + 1) first (many + 1) := by
  rcases h with ⟨h, _⟩ | ⟨_, h2, h3, h4⟩
  · omega
  · refine .inr ⟨by omega, by omega, h3, fun t a b => ?_⟩
    by_cases e : t = i
    · rw [e]; exact hx
    · exact h4 t a (by omega)
theorem RunSt.start {x : List Bool} {p i : Nat} (h : nxt x p = some i) : RunSt x p (i + 1) i 1 :=
  .inr ⟨by omega, by omega, h, fun t a b => by
    have : t = i := by omega
    rw [this]; exact (nxt_some.1 h).2.2.1⟩
theorem RunSt.run {x : List Bool} {p i first many : Nat} (h : RunSt x p i first many) (hm : 0 < many) (hx : x.getD i false = false) : nxt x p = some first ∧ RunAt x first many ∧ first + many = i := by
  rcases h with ⟨h, _⟩ | ⟨h1, h2, h3, h4⟩
  · omega
  · exact ⟨h3, ⟨h1, h4, by rw [h2]; exact hx⟩, h2⟩
theorem RunSt.zero {x : List Bool} {p i first many : Nat} (h : RunSt x p i first many) (hm : many = 0) : i = 0 ∧ p = 0 := by
  rcases h with ⟨_, h⟩ | ⟨h1, _⟩
  · exact h
  · omega
theorem RunSt.bd {x : List Bool} {p i first many : Nat} (h : RunSt x p i first many) : many ≤ i ∧ (0 < many → first + many = i) := by
  rcases h with ⟨h1, h2, _⟩ | ⟨h1, h2, _⟩
  · exact ⟨by omega, fun h => by omega⟩
  · exact ⟨by omega, fun _ => h2⟩

/-- What lies there between two rounds of the range within Runs. -/
structure RunB (w W : World) (b y bp L D : Nat) (first many : Nat) (r : Loop) (st : LoopState) (pe : Option Code) : Prop where
  by_ : Blk W w.heap.size 68 #[.func (.yield y) #[] #[]]
  bf : Blk W (w.heap.size + 1) 3 #[.int .i64 first]
  bm : Blk W (w.heap.size + 2) 3 #[.int .i64 many]
  bb : Blk W bp 24 #[.pointer (some ⟨b, 0, none⟩)]
  rc : Rec W L (Loop.at_ r st pe)
  df : Dfr W D
/-- Between two rounds. -/
structure RunJ (w W : World) (J : Nat → World → Prop) (x : List Bool) (b y bp L D : Nat) (i p first many : Nat) (r : Loop) (st : LoopState) (pe : Option Code) : Prop where
  o : RunB w W b y bp L D first many r st pe
  j : J p W
  s : RunSt x p i first many
  le : i ≤ x.length
  fle : first ≤ x.length

section
variable {w W W' : World} {J : Nat → World → Prop} {x : List Bool} {b y bp L D i p first many : Nat} {r : Loop} {st st' : LoopState} {pe pe' : Option Code}
theorem RunB.kept (h : RunB w W b y bp L D first many r st pe) (hDL : D ≠ L) (hk : Kept L W W') (hR : Rec W' L (Loop.at_ r st' pe')) : RunB w W' b y bp L D first many r st' pe' :=
  ⟨h.by_.kept hk, h.bf.kept hk, h.bm.kept hk, h.bb.kept hk, hR, h.df.kept hk hDL⟩
theorem RunJ.kept (h : RunJ w W J x b y bp L D i p first many r st pe) (hst : ∀ i W W', J i W → Chg (fun k => w.heap.size ≤ k) W W' → J i W') (hL : w.heap.size ≤ L) (hDL : D ≠ L) (hk : Kept L W W') (hR : Rec W' L (Loop.at_ r st' pe')) :
    RunJ w W' J x b y bp L D i p first many r st' pe' :=
  ⟨h.o.kept hDL hk hR, hst _ _ _ h.j (hk.chg.mono fun _ _ e => by omega), h.s, h.le, h.fle⟩
/-- The row goes on. -/
theorem RunJ.more (h : RunJ w W J x b y bp L D i p first many r st pe) (hst : ∀ i W W', J i W → Chg (fun k => w.heap.size ≤ k) W W' → J i W') (hm : 0 < many) (hx : x.getD i false = true) (hbp : bp ≠ w.heap.size + 2)
    (hW : W.setCell ⟨w.heap.size + 2, 0, none⟩ (.int .i64 ((many : Int) + 1)) = W') : RunJ w W' J x b y bp L D (i + 1) p first (many + 1) r st pe := by
  have hc : Chg (fun j => j = w.heap.size + 2) W W' := hW ▸ (Chg.refl (fun j => j = w.heap.size + 2) W).setCell (p := ⟨w.heap.size + 2, 0, none⟩) (fun _ => rfl) _
  refine ⟨⟨h.o.by_.chg hc (by omega), h.o.bf.chg hc (by omega), ?_, h.o.bb.chg hc hbp, h.o.rc.chg hc (h.o.rc.ne_blk h.o.bm), h.o.df.chg hc (h.o.df.ne_blk h.o.bm)⟩, hst _ _ _ h.j (hc.mono fun _ _ e => by omega), h.s.more hm hx, getD_lt hx, h.fle⟩
  subst hW
  have := h.o.bm.put 0 (.int .i64 ((many : Int) + 1))
  simpa using this
/-- A row begins. -/
theorem RunB.start {q j : Nat} (h : RunB w W b y bp L D first many r st pe) (hst : ∀ i W W', J i W → Chg (fun k => w.heap.size ≤ k) W W' → J i W') (hbp : bp ≠ w.heap.size + 2) (hbp1 : bp ≠ w.heap.size + 1) (hJ : J q W) (hx : nxt x q = some j)
    (hW : (W.setCell ⟨w.heap.size + 1, 0, none⟩ (.int .i64 (j : Int))).setCell ⟨w.heap.size + 2, 0, none⟩ (.int .i64 1) = W') : RunJ w W' J x b y bp L D (j + 1) q j 1 r st pe := by
  have hc : Chg (fun j => j = w.heap.size + 1 ∨ j = w.heap.size + 2) W W' :=
    hW ▸ ((Chg.refl (fun j => j = w.heap.size + 1 ∨ j = w.heap.size + 2) W).setCell (p := ⟨w.heap.size + 1, 0, none⟩) (fun _ => .inl rfl) _).setCell (p := ⟨w.heap.size + 2, 0, none⟩) (fun _ => .inr rfl) _
  have hlt := (nxt_some.1 hx).2.1
  refine ⟨⟨h.by_.chg hc (by omega), ?_, ?_, h.bb.chg hc (by omega), h.rc.chg hc (fun e => by rcases e with e | e; exact h.rc.ne_blk h.bf e; exact h.rc.ne_blk h.bm e), h.df.chg hc (fun e => by rcases e with e | e; exact h.df.ne_blk h.bf e; exact h.df.ne_blk h.bm e)⟩,
    hst _ _ _ hJ (hc.mono fun _ _ e => by omega), RunSt.start hx, hlt, by omega⟩
  · subst hW
    have := (h.bf.put 0 (.int .i64 (j : Int))).far (p := ⟨w.heap.size + 2, 0, none⟩) (by simp) (.int .i64 1)
    simpa using this
  · subst hW
    have := (h.bm.far (p := ⟨w.heap.size + 1, 0, none⟩) (by simp) (.int .i64 (j : Int))).put 0 (.int .i64 1)
    simpa using this
/-- The world that the caller's round leaves. -/
theorem RunB.told (h : RunB w W b y bp L D first many r st pe) (hbp : w.heap.size ≤ bp) (hL : w.heap.size ≤ L) (hD : w.heap.size ≤ D) (hc : Chg (fun k => k < w.heap.size) W W') : RunB w W' b y bp L D first many r st pe :=
  ⟨h.by_.chg hc (by omega), h.bf.chg hc (by omega), h.bm.chg hc (by omega), h.bb.chg hc (by omega), h.rc.chg hc (by omega), h.df.chg hc (by omega)⟩
end

theorem getD_next {x : List Bool} {i j : Nat} (h : nxt x i = some j) (hne : i ≠ j) : x.getD i false = false := by
  obtain ⟨h1, h2, h3, h4⟩ := nxt_some.1 h
  exact h4 i (by omega) (by omega)

theorem runs_any (b : Nat) (w W : World) (hW : w.alloc (.cells #[.pointer (some ⟨b, 0, none⟩)] 24) = W) :
    Calls Tryd.prog 20 #[.pointer (some ⟨b, 0, none⟩)] w fun e w' => e = .returned (.func (.func 34) #[] #[.pointer (some ⟨w.heap.size, 0, none⟩)]) ∧ W = w' := by
  subst hW
  go_enter Tryd.func20, Tryd.ntmps20
  go_wp2
  go_ret
  exact ⟨rfl, rfl⟩

set_option maxRecDepth 100000 in
set_option maxHeartbeats 3200000 in
theorem runs_iter (bb b y : Nat) (x : List Bool) (A : Option Addr) (c : Nat) (J : Nat → World → Prop) (w : World) (hl : x.length ≤ 65536)
    (hin : ∀ i W, J i W → AllIn W bb b x A c)
    (hst : ∀ i W W', J i W → Chg (fun k => w.heap.size ≤ k) W W' → J i W')
    (hyld : ∀ i j m W, J i W → nxt x i = some j → RunAt x j m → YieldAt Fence.wide 0 Tryd.prog y #[.int .i64 j, .int .i64 m] W fun e w' => e = .returned (.bool true) ∧ J (j + m) w' ∧ Chg (fun k => k < w.heap.size) W w')
    (h0 : J 0 w) :
    Calls Tryd.prog 34 #[.func (.yield y) #[] #[], .pointer (some ⟨bb, 0, none⟩)] w fun e w' => (∃ v, e = .returned v) ∧ ∃ i, J i w' ∧ nxt x i = none := by
  have Hin := Lib.hid hin
  have Hst := Lib.hid hst
  have Hyld := Lib.hid hyld
  have H0 := Lib.hid h0
  obtain ⟨W3, hW3⟩ : ∃ W3, ((w.alloc (.cells #[.func (.yield y) #[] #[]] 68)).alloc (.cells #[.int .i64 0] 3)).alloc (.cells #[.int .i64 0] 3) = W3 := ⟨_, rfl⟩
  have HG3 := Lib.hid (show Grew w W3 from hW3 ▸ (((Chg.refl _ _).alloc _).alloc _).alloc _)
  have B3y := Lib.hid (show Blk W3 w.heap.size 68 #[.func (.yield y) #[] #[]] from hW3 ▸ ((Blk.new _ _ _).alloc _).alloc _)
  have B3f := Lib.hid (show Blk W3 (w.heap.size + 1) 3 #[.int .i64 0] from hW3 ▸ (by have := (Blk.new (w.alloc (.cells #[.func (.yield y) #[] #[]] 68)) 3 #[.int .i64 0]).alloc (.cells #[.int .i64 0] 3); simpa using this))
  have B3m := Lib.hid (show Blk W3 (w.heap.size + 2) 3 #[.int .i64 0] from hW3 ▸ (by have := Blk.new ((w.alloc (.cells #[.func (.yield y) #[] #[]] 68)).alloc (.cells #[.int .i64 0] 3)) 3 #[.int .i64 0]; simpa using this))
  have c9 : (((w.alloc (.cells #[.func (.yield y) #[] #[]] 68)).alloc (.cells #[.int .i64 0] 3)).alloc (.cells #[.int .i64 0] 3)).cell? ⟨bb, 0, none⟩ = some (.pointer (some ⟨b, 0, none⟩)) := by
    rw [hW3]; exact ((hin 0 w h0).bb.grew HG3.out).cell 0
  have HW3 := Lib.hid hW3
  clear hin hyld h0 hst hW3
  (refine calls_of_marksW (n := 1) Tryd.func34 rfl ?_; simp only [Tryd.ntmps34, List.size_toArray, List.length_cons, List.length_nil, Nat.reduceAdd, Nat.reduceSub, Array.replicate_succ, Array.replicate_zero, List.push_toArray, List.append_toArray, List.nil_append, List.cons_append])
  gi_wp2_with fail
  obtain ⟨W6, hW6⟩ : ∃ W6, (((w.alloc (.cells #[.func (.yield y) #[] #[]] 68)).alloc (.cells #[.int .i64 0] 3)).alloc (.cells #[.int .i64 0] 3)).alloc (.cells #[.pointer (some ⟨b, 0, none⟩)] 24) = W6 := ⟨_, rfl⟩
  gi_wp2_with (refine ⟨trivial, ?_⟩; gi_at_call 16; refine (callsIn_wide.2 (all_any b _ W6 hW6)).mono ?_; rintro e w5 ⟨rfl, rfl⟩)
  have HG6 := Lib.hid (show Grew W3 W6 from hW6 ▸ HW3.out ▸ (Chg.refl _ _).alloc _)
  have B6p := Lib.hid (show Blk W6 (w.heap.size + 1 + 1 + 1) 24 #[.pointer (some ⟨b, 0, none⟩)] from hW6 ▸ (by have := Blk.new (((w.alloc (.cells #[.func (.yield y) #[] #[]] 68)).alloc (.cells #[.int .i64 0] 3)).alloc (.cells #[.int .i64 0] 3)) 24 #[.pointer (some ⟨b, 0, none⟩)]; simpa using this))
  have HGw6 := Lib.hid (Grew.trans HG3.out HG6.out)
  have hz6 := B6p.out.lt
  clear hW6 c9
  refine wpIn_wide.2 (wp_range (gf := 31) (lb := #[.pointer (some ⟨w.heap.size + 1 + 1 + 1, 0, none⟩)]) rfl (enters_of Tryd.func31 (by kernel_rfl) rfl) ?_)
  intro r Wr D L hr hg1 hDl hLl hD hR
  have HR1 := Lib.hid hr
  have hDL := Ne.symm (hR.ne_dfr hD)
  have hL2 := hR.lt
  have hD2 := hD.lt
  have HGr := Lib.hid (Grew.trans HGw6.out hg1)
  have HJ0 := Lib.hid (show RunJ w Wr J x b y (w.heap.size + 1 + 1 + 1) L D 0 0 0 0 r .ready none from
    ⟨⟨(B3y.out.grew HG6.out).grew hg1, (B3f.out.grew HG6.out).grew hg1, (B3m.out.grew HG6.out).grew hg1, B6p.out.grew hg1, hR, hD⟩, Hst.out 0 _ _ H0.out HGr.out.chg, .inl ⟨rfl, rfl, rfl⟩, by omega, by omega⟩)
  clear hr hg1 hD hR B3y B3f B3m B6p HG6 HG3 HW3
  refine (all_iter (w.heap.size + 1 + 1 + 1) b L x A c
    (fun i W => ∃ p first many, RunJ w W J x b y (w.heap.size + 1 + 1 + 1) L D i p first many r .ready none)
    (fun _ _ => False) Wr hl
    (fun i W ⟨p, first, many, hJ⟩ => ⟨hJ.o.bb, (Hin.out p W hJ.j).p, (Hin.out p W hJ.j).t⟩)
    (fun i j W ⟨p, first, many, hJ⟩ hx => ?yld) ⟨0, 0, 0, HJ0.out⟩).mono ?post
  case yld =>
    have HX := Lib.hid hx
    have HJ := Lib.hid hJ
    have hjl := (nxt_some.1 hx).2.1
    have hij := (nxt_some.1 hx).1
    clear hx hJ
    obtain ⟨hr1, hr2, hr3, hr4⟩ := HR1.out
    refine yield_wide HJ.out.o.rc (by rw [hr2]; rfl) ?_
    rw [hr1, hr2, hr3, hr4]
    clear hr1 hr2 hr3 hr4
    intro K hK
    have HKK := Lib.hid hK
    clear hK
    gi_wp2
    refine HKK.out _ _ HJ.out.o.rc fun W5 Q hk3 hR2 hQ => ?_
    have HQ := Lib.hid hQ
    have HJ5 := Lib.hid (HJ.out.kept Hst.out (by omega) (by omega) hk3 hR2)
    clear hk3 hR2 hQ
    obtain ⟨c0, f0, s0⟩ := HJ5.out.o.by_.facts
    obtain ⟨c1, f1, s1⟩ := HJ5.out.o.bf.facts
    obtain ⟨c2, f2, s2⟩ := HJ5.out.o.bm.facts
    have hbd := HJ5.out.s.bd
    have hle := HJ5.out.le
    have hfl := HJ5.out.fle
    have t1 : (first : Int) ≤ 65536 := by omega
    have t2 : (many : Int) ≤ 65536 := by omega
    have t3 : (j : Int) ≤ 65536 := by omega
    have t4 : (0 : Int) ≤ (many : Int) := by omega
    have t5 : (0 : Int) ≤ (first : Int) := by omega
    by_cases hm : many = 0
    · obtain ⟨rfl, rfl⟩ := HJ5.out.s.zero hm
      subst hm
      clear hbd
      gi_wp2
      refine ⟨fun _ h => (by cases h), ?_⟩
      gi_wp2
      obtain ⟨W8, hW8⟩ : ∃ W8, (W5.setCell ⟨w.heap.size + 1, 0, none⟩ (.int .i64 (j : Int))).setCell ⟨w.heap.size + 2, 0, none⟩ (.int .i64 1) = W8 := ⟨_, rfl⟩
      have HJ8 := HJ5.out.o.start Hst.out (by omega) (by omega) HJ5.out.j HX.out hW8
      rw [hW8]
      exact HQ.out _ _ _ ⟨HJ8.o.rc, fun w' hk' hR' => .inl ⟨rfl, _, _, _, HJ8.kept Hst.out (by omega) (by omega) hk' hR'⟩⟩
    · have hm0 : 0 < many := by omega
      have u1 : decide ((0 : Int) < (many : Int)) = true := decide_eq_true (by omega)
      have hfi := hbd.2 hm0
      clear hbd
      by_cases hji : j = i
      · subst hji
        have u2 : ((j : Int) == (first : Int) + (many : Int)) = true := by simp; omega
        gi_wp2
        obtain ⟨W8, hW8⟩ : ∃ W8, W5.setCell ⟨w.heap.size + 2, 0, none⟩ (.int .i64 ((many : Int) + 1)) = W8 := ⟨_, rfl⟩
        have HJ8 := HJ5.out.more Hst.out hm0 (nxt_some.1 HX.out).2.2.1 (by omega) hW8
        rw [hW8]
        exact HQ.out _ _ _ ⟨HJ8.o.rc, fun w' hk' hR' => .inl ⟨rfl, _, _, _, HJ8.kept Hst.out (by omega) (by omega) hk' hR'⟩⟩
      · have u2 : ((j : Int) == (first : Int) + (many : Int)) = false := by simp; omega
        obtain ⟨hnp, hra, hfm⟩ := HJ5.out.s.run hm0 (getD_next HX.out (Ne.symm hji))
        obtain ⟨fn, tmps, assign, body, hy, hRd⟩ := Hyld.out p first many W5 HJ5.out.j hnp hra
        have HRd := Lib.hid hRd
        clear hnp hra hRd
        gi_wp2_with (refine ⟨rfl, ?_⟩; refine HRd.out.mono ?_; rintro e w6 ⟨rfl, hJ6, hc6⟩; have HJ6 := Lib.hid (And.intro hJ6 (HJ5.out.o.told (by omega) (by omega) (by omega) hc6)); clear hJ6 hc6 c0 f0 s0 c1 f1 s1 c2 f2 s2; obtain ⟨c1, f1, s1⟩ := HJ6.out.2.bf.facts; obtain ⟨c2, f2, s2⟩ := HJ6.out.2.bm.facts)
        obtain ⟨W8, hW8⟩ : ∃ W8, (w6.setCell ⟨w.heap.size + 1, 0, none⟩ (.int .i64 (j : Int))).setCell ⟨w.heap.size + 2, 0, none⟩ (.int .i64 1) = W8 := ⟨_, rfl⟩
        have HJ8 := HJ6.out.2.start Hst.out (by omega) (by omega) HJ6.out.1 (by rw [hfm]; exact HX.out) hW8
        rw [hW8]
        exact HQ.out _ _ _ ⟨HJ8.o.rc, fun w' hk' hR' => .inl ⟨rfl, _, _, _, HJ8.kept Hst.out (by omega) (by omega) hk' hR'⟩⟩
  case post =>
    rintro e w3 ⟨hv, hJ⟩
    refine ⟨hv, ?_⟩
    rcases hJ with ⟨i, ⟨p, first, many, hJ⟩, hno⟩ | ⟨i, hJ⟩
    rotate_left
    · exact hJ.elim
    refine .inl ⟨hJ.o.rc, fun w4 hk4 => ?_⟩
    have HS := Lib.hid (And.intro hJ.s hno)
    have HJ4 := Lib.hid (Hst.out p _ _ hJ.j (show Chg (fun k => w.heap.size ≤ k) w3 w4 from hk4.chg.mono fun _ _ e => by omega))
    have HY4 := Lib.hid (hJ.o.by_.kept hk4)
    have HF4 := Lib.hid (hJ.o.bf.kept hk4)
    have HM4 := Lib.hid (hJ.o.bm.kept hk4)
    have HD4 := Lib.hid (hJ.o.df.kept hk4 (by omega))
    have hle := hJ.le
    have hfl := hJ.fle
    clear hJ hk4 hno
    obtain ⟨c0, f0, s0⟩ := HY4.out.facts
    obtain ⟨c1, f1, s1⟩ := HF4.out.facts
    obtain ⟨c2, f2, s2⟩ := HM4.out.facts
    have hbd := HS.out.1.bd
    by_cases hm : many = 0
    · obtain ⟨rfl, rfl⟩ := HS.out.1.zero hm
      subst hm
      clear hbd
      gi_wp2
      refine postM_end1 (v := .tuple #[]) (D := D) HD4.out rfl fun w5 hk5 => ⟨results_none rfl _ _ _, ⟨_, rfl⟩, 0, Hst.out 0 _ _ HJ4.out (hk5.chg.mono fun _ _ e => by omega), HS.out.2⟩
    · have hm0 : 0 < many := by omega
      have u1 : decide ((0 : Int) < (many : Int)) = true := decide_eq_true (by omega)
      clear hbd
      obtain ⟨hnp, hra, hfm⟩ := HS.out.1.run hm0 (nxt_none.1 HS.out.2 i (Nat.le_refl _))
      obtain ⟨fn, tmps, assign, body, hy, hRd⟩ := Hyld.out p first many w4 HJ4.out hnp hra
      have HRd := Lib.hid hRd
      have Hfm := Lib.hid hfm
      clear hnp hra hRd hfm
      gi_wp2_with (refine HRd.out.mono ?_; rintro e w6 ⟨rfl, hJ6, hc6⟩; have HJ6 := Lib.hid (And.intro hJ6 (HD4.out.chg hc6 (by omega))); clear hJ6 hc6 c0 f0 s0 c1 f1 s1 c2 f2 s2)
      refine postM_end1 (v := .tuple #[]) (D := D) HJ6.out.2 rfl fun w5 hk5 => ⟨results_none rfl _ _ _, ⟨_, rfl⟩, i, by rw [← Hfm.out]; exact Hst.out _ _ _ HJ6.out.1 (hk5.chg.mono fun _ _ e => by omega), HS.out.2⟩

end Go.Proofs.YtenmilemdkhijaaDoor
