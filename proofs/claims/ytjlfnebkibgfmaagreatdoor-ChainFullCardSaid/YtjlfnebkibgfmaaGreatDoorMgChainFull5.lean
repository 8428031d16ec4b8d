/- ChainFull returns true, for every input. It has no condition; the table of math/bits that its row lists is tied to the program. -/
import Derived.Test.YtjlfnebkibgfmaaGreatDoorMgChainFull4
import Derived.Test.YtjlfnebkibgfmaaGreatDoorRows
import Derived.Test.YtjlfnebkibgfmaaGreatDoorTie
import Derived.Test.YtjlfnebkibgfmaaGreatDoorCards
import Derived.Lib.LaidTab
import Derived.LaidLaws
import Derived.LaidHandle
import Derived.SevenTiedAt
import Derived.ProofKit
import Derived.OpenShut
import Derived.ShutString
import Derived.ChangeOld
import Derived.Deep.Slices
import Derived.Deep.Fields
set_option linter.unusedSimpArgs false
set_option linter.unusedVariables false

/- The pager: what holds behind a commit (plain). -/
namespace Go.Proofs.YtjlfnebkibgfmaaGreatDoor
open Go.RowKit Go.Maps

theorem grp_inj : ∀ (m a b : Nat) (x y : List Int), a ≤ m → grp a ++ x = grp b ++ y → a = b ∧ x = y := by
  intro m
  induction m with
  | zero =>
    intro a b x y ha h
    obtain rfl : a = 0 := by omega
    rw [grp_small (u := 0) (by omega)] at h
    by_cases hb : b < 128
    · rw [grp_small hb] at h
      simp only [List.cons_append, List.nil_append, List.cons.injEq] at h
      exact ⟨by omega, h.2⟩
    · rw [grp_more (u := b) (by omega)] at h
      simp only [List.cons_append, List.nil_append, List.cons.injEq] at h
      omega
  | succ m ih =>
    intro a b x y ha h
    by_cases h1 : a < 128
    · rw [grp_small h1] at h
      by_cases hb : b < 128
      · rw [grp_small hb] at h
        simp only [List.cons_append, List.nil_append, List.cons.injEq] at h
        exact ⟨by omega, h.2⟩
      · rw [grp_more (u := b) (by omega)] at h
        simp only [List.cons_append, List.nil_append, List.cons.injEq] at h
        omega
    · rw [grp_more (u := a) (by omega)] at h
      by_cases hb : b < 128
      · rw [grp_small hb] at h
        simp only [List.cons_append, List.nil_append, List.cons.injEq] at h
        omega
      · rw [grp_more (u := b) (by omega)] at h
        simp only [List.cons_append, List.cons.injEq] at h
        obtain ⟨e1, e2⟩ := ih (a / 128) (b / 128) x y (by omega) h.2
        exact ⟨by omega, e2⟩
theorem grps_inj : ∀ (l l' : List Nat), l.length = l'.length → grps l = grps l' → l = l'
  | [], [], _, _ => rfl
  | [], b :: l', h, _ => by simp at h
  | a :: l, [], h, _ => by simp at h
  | a :: l, b :: l', h, e => by
    unfold grps at e
    rw [List.flatMap_cons, List.flatMap_cons] at e
    obtain ⟨e1, e2⟩ := grp_inj _ _ _ _ _ (Nat.le_refl _) e
    obtain rfl := grps_inj l l' (by simpa using h) e2
    obtain rfl : a = b := by omega
    rfl
theorem bodyL_inj {ep ep' : Nat} {l l' : List Nat} (h : bodyL ep l = bodyL ep' l') : ep = ep' ∧ l = l' := by
  unfold bodyL at h
  rw [List.append_assoc, List.append_assoc] at h
  obtain ⟨e1, e2⟩ := grp_inj _ _ _ _ _ (Nat.le_refl _) h
  obtain ⟨e3, e4⟩ := grp_inj _ _ _ _ _ (Nat.le_refl _) e2
  exact ⟨by omega, grps_inj _ _ (by omega) e4⟩

theorem rootL_inj {ep ep' sz : Nat} {l l' : List Nat} (hf : (bodyL ep l).length + 14 ≤ sz) (hz : sz ≤ 4096) (h : rootL ep l sz = rootL ep' l' sz) : ep = ep' ∧ l = l' := by
  refine bodyL_inj ?_
  obtain ⟨B, hB⟩ : ∃ B, bodyL ep l = B := ⟨_, rfl⟩
  obtain ⟨B', hB'⟩ : ∃ B, bodyL ep' l' = B := ⟨_, rfl⟩
  unfold rootL at h
  rw [hB, hB'] at h
  rw [hB] at hf
  rw [hB, hB']
  have hl := congrArg List.length h
  have h8 : ∀ e, (tail8 e).length = 8 := fun e => rfl
  have h4 : ∀ x, (lowB x).length = 4 := fun x => rfl
  have hfl : ∀ (b : List Int) (m : Nat), (fitL b m).length = b.length + (m - 2 - b.length) + 2 := fun b m => by simp [fitL]
  simp only [sealL, List.length_append, h8, h4, hfl] at hl
  have hs : (sealL B (sz - 12)).length = (sealL B' (sz - 12)).length := by simp only [sealL, List.length_append, h4, hfl]; omega
  obtain ⟨h1, -⟩ := List.append_inj h hs
  unfold sealL at h1
  obtain ⟨h2, -⟩ := List.append_inj h1 (by rw [hfl, hfl]; omega)
  unfold fitL at h2
  simp only [List.cons.injEq] at h2
  obtain ⟨e1, e2, e3⟩ := h2
  have hle : B.length = B'.length := by omega
  exact (List.append_inj e3 hle).1

section
variable {D0 : Dk} {ep : Nat} {pg0 tb old lf0 : List Nat} {fe0 : List Bool} {fr0 tc dn : Nat → Bool} {S : TS} {k s j rem : Nat}
theorem getD_some {tb : List Nat} {m s : Nat} (h : tb[m]? = some s) : tb.getD m 0 = s := by rw [List.getD_eq_getElem?_getD, h]; rfl
/-- Where a table page was not touched, its entries are as they were. -/
theorem Inv.same_tab (h0 : Inv D0 ep pg0 tb old fe0 fr0 lf0 tc) {k i : Nat} (hk : tc k = false) (hi : i < D0.sz / 2) : tb.getD (k * (D0.sz / 2) + i) 0 = old.getD (k * (D0.sz / 2) + i) 0 := by
  have hr := h0.row
  have e : (k * (D0.sz / 2) + i) / (D0.sz / 2) = k := by
    rw [Nat.mul_comm, Nat.mul_add_div (by omega), Nat.div_eq_of_lt hi]; rfl
  by_cases h : tb[k * (D0.sz / 2) + i]? = old[k * (D0.sz / 2) + i]?
  · rw [List.getD_eq_getElem?_getD, List.getD_eq_getElem?_getD, h]
  · have := h0.tcd _ h
    rw [e, hk] at this
    cases this
/-- The disk behind the commit: the root is written. -/
def Dk.rooted (D : Dk) (ep : Nat) (pg : List Nat) : Dk := (D.flushed.wr ((ep % 2 : Nat) : Int) (rootL ep pg D.sz)).flushed
theorem Dk.rooted_rd (D : Dk) (ep : Nat) (pg : List Nat) (s : Nat) : (D.rooted ep pg).rd (s : Int) = if s = ep % 2 then rootL ep pg D.sz else D.rd (s : Int) := by
  unfold Dk.rooted
  rw [Dk.flushed_rd, Dk.wr_rd, Dk.flushed_rd]
theorem rootL_byte {ep sz : Nat} {l : List Nat} : ∀ x ∈ rootL ep l sz, 0 ≤ x ∧ x ≤ 255 := by
  intro x hx
  unfold rootL at hx
  rcases List.mem_append.1 hx with e | e
  · unfold sealL at e
    rcases List.mem_append.1 e with e | e
    · exact fitL_byte (bodyL_byte _ _) x e
    · exact lowB_byte (crc_lt (fitL_byte (bodyL_byte _ _))) x e
  · simp only [tail8, List.mem_cons, List.not_mem_nil, or_false] at e
    rcases e with rfl | rfl | rfl | rfl | rfl | rfl | rfl | rfl <;> omega
/-- What holds behind a commit. -/
theorem TInv.commit (h0 : Inv D0 ep pg0 tb old fe0 fr0 lf0 tc) (h : TInv D0 pg0 tb old fr0 S tc rem) (he : ep < 1099511627776) (hf : fitsN pg0.length D0.sz = true) :
    Inv (S.D.rooted (ep + 1) S.pg) (ep + 1) S.pg tb tb (gvn S.fe fun s => decide (s ∈ S.lf)) (fun _ => false) [] (fun _ => false) := by
  have hz := h0.sz
  have hn := h.n
  have hlf2 : ∀ s, s ∈ S.lf → 2 ≤ s := fun s hs => by
    rcases (h.lf.2 s).1 hs with ⟨e, -⟩ | ⟨e, k, -, hk⟩
    · exact e
    · exact (h0.rP k s hk e).1
  have hpg : ∀ (k s : Nat), S.pg[k]? = some s → s ≠ 0 → 2 ≤ s ∧ s < D0.n ∧ (∀ i : Nat, old[i]? ≠ some s) ∧ fr0 s = false := fun k s hk hs => by
    cases hd : tc k with
    | false =>
      rw [h.keep k hd] at hk
      have h1 := h0.rP k s hk hs
      refine ⟨h1.1, h1.2, fun i hi => by have := h0.dis k i s hk hi; omega, ?_⟩
      cases e : fr0 s with
      | false => rfl
      | true => exact absurd hk ((h0.frr s e).2.2.1 k)
    | true =>
      rcases h.new k s hd hk with ⟨e, -⟩ | ⟨e1, e2, e3, -⟩
      · exact absurd e hs
      · have := h.frn s e2; exact ⟨e1, this.2.1, this.2.2.2, e3⟩
  have htb : ∀ (i s : Nat), tb[i]? = some s → s < D0.n := fun i s hi => by
    by_cases e : s < 2
    · omega
    · rcases h0.cur i s hi (by omega) with e1 | e1
      · exact (h0.frr s e1).2.1
      · exact h0.rO i s e1
  have hs4 : ∀ s ∈ S.pg, s < 4096 := fun s hs => by
    obtain ⟨k, hk⟩ := List.mem_iff_getElem?.1 hs
    by_cases e : s = 0
    · omega
    · have := (hpg k s hk e).2.1; omega
  have hfit : (bodyL (ep + 1) S.pg).length + 14 ≤ D0.sz := body_fits (by rw [h.pgl]; exact hf) (by omega) hs4
  have hrd : ∀ (k s : Nat), S.pg[k]? = some s → s ≠ 0 → (S.D.rooted (ep + 1) S.pg).rd (s : Int) = tabL tb (D0.sz / 2) D0.sz k ∧ ∃ i, i < D0.sz / 2 ∧ tb.getD (k * (D0.sz / 2) + i) 0 ≠ 0 := fun k s hk hs => by
    have h1 := hpg k s hk hs
    rw [Dk.rooted_rd, if_neg (by omega)]
    cases hd : tc k with
    | false =>
      have hk0 := hk
      rw [h.keep k hd] at hk0
      have e1 : S.D.rd (s : Int) = D0.rd (s : Int) := h.rd s fun e => absurd hk0 ((h.frn s e).2.2.1 k)
      rw [e1, h0.dur.tabs k s hk0 hs, tabL_congr (fun i hi => (h0.same_tab hd hi).symm)]
      obtain ⟨i, hi, e⟩ := h0.dur.tab1 k s hk0 hs
      exact ⟨rfl, i, hi, by rw [h0.same_tab hd hi]; exact e⟩
    | true =>
      rcases h.new k s hd hk with ⟨e, -⟩ | ⟨e1, e2, e3, e4, e5⟩
      · exact absurd e hs
      · refine ⟨e4, ?_⟩
        unfold someB at e5
        simp only [List.any_eq_true, List.mem_range, bne_iff_ne] at e5
        exact e5
  refine ⟨by rw [show (S.D.rooted (ep + 1) S.pg).n = S.D.n from rfl, show (S.D.rooted (ep + 1) S.pg).sz = S.D.sz from rfl, hn.1, hn.2.1]; exact hz, ?_, ?_, ?_, fun i j s hi hj h2 => h0.jT i j s hi hj h2, h.jP, fun k i s hk hi => ?_, fun s hs => ?_, fun s hs => (by cases hs), fun i s hi _ => .inr hi, fun i j s hi hj h2 => h0.jT i j s hi hj h2, ⟨List.nodup_nil, fun s => ⟨fun e => (by cases e), fun e => by obtain ⟨-, i, h1, h2⟩ := e; exact absurd h1 h2⟩⟩, fun i hi => absurd rfl hi, fun k hk => (by cases hk), ?_, fun s _ _ => rfl, ⟨fun _ => ?_, fun i e' pg' hi hg hp hr => ?_, fun e => (by omega), fun k hk i hi => ?_, fun k s hk hs => ?_, fun k s hk hs => ?_⟩, fun s hs x hx => ?_, by omega⟩
  · refine ⟨by rw [gvn_len, h.fel]; exact hn.1.symm, ?_, ?_, ?_⟩
    · show S.pg.length = tabN S.D.n S.D.sz
      rw [hn.1, hn.2.1, h.pgl]; exact h0.lens.2.1
    · show tb.length = capN S.D.n S.D.sz
      rw [hn.1, hn.2.1]; exact h0.lens.2.2.1
    · show tb.length = capN S.D.n S.D.sz
      rw [hn.1, hn.2.1]; exact h0.lens.2.2.1
  · intro i s hi
    show s < S.D.n
    rw [hn.1]; exact htb i s hi
  · intro k s hk hs
    show 2 ≤ s ∧ s < S.D.n
    rw [hn.1]
    have := hpg k s hk hs
    exact ⟨this.1, this.2.1⟩
  · by_cases e : s = 0
    · omega
    · have h1 := hpg k s hk e
      by_cases e2 : s < 2
      · exact e2
      · rcases h0.cur i s hi (by omega) with e3 | e3
        · rw [h1.2.2.2] at e3; cases e3
        · exact absurd e3 (h1.2.2.1 i)
  · have hsn : s < D0.n := by have : s < S.D.n := hs; omega
    rw [gvn_at, h.fel]
    simp only [hsn, decide_true, Bool.true_and, Bool.or_eq_false_iff, decide_eq_false_iff_not]
    constructor
    · rintro ⟨e1, e2⟩
      rcases (h.acct s hsn).1 e1 with e | ⟨k, hk⟩ | ⟨i, hi⟩ | e
      · exact .inl e
      · by_cases e3 : s = 0
        · exact .inl (by omega)
        · cases hd : tc k with
          | false => exact .inr (.inl ⟨k, by rw [h.keep k hd]; exact hk⟩)
          | true => exact absurd ((h.lf.2 s).2 (.inr ⟨e3, k, hd, hk⟩)) e2
      · by_cases e3 : s < 2
        · exact .inl e3
        · by_cases e4 : tb[i]? = some s
          · exact .inr (.inr (.inl ⟨i, e4⟩))
          · exact absurd ((h.lf.2 s).2 (.inl ⟨by omega, i, hi, e4⟩)) e2
      · rcases h.frr s e with e3 | ⟨k, e3, e4⟩
        · obtain ⟨i, hi⟩ := (h0.frr s e3).2.2.2.2
          exact .inr (.inr (.inl ⟨i, hi⟩))
        · exact .inr (.inl ⟨k, e4⟩)
    · rintro (e | ⟨k, hk⟩ | ⟨i, hi⟩ | e)
      · exact ⟨(h.acct s hsn).2 (.inl e), fun hm => by have := hlf2 s hm; omega⟩
      · by_cases e3 : s = 0
        · exact ⟨(h.acct s hsn).2 (.inl (by omega)), fun hm => by have := hlf2 s hm; omega⟩
        · have h1 := hpg k s hk e3
          cases hd : tc k with
          | false =>
            have hk0 := hk
            rw [h.keep k hd] at hk0
            refine ⟨(h.acct s hsn).2 (.inr (.inl ⟨k, hk0⟩)), fun hm => ?_⟩
            rcases (h.lf.2 s).1 hm with ⟨-, i, hi, -⟩ | ⟨-, m, hm1, hm2⟩
            · exact h1.2.2.1 i hi
            · have := h0.jP k m s hk0 hm2 e3
              subst this
              rw [hd] at hm1
              cases hm1
          | true =>
            rcases h.new k s hd hk with ⟨e, -⟩ | ⟨e1, e2, -⟩
            · exact absurd e e3
            · refine ⟨(h.acct s hsn).2 (.inr (.inr (.inr e2))), fun hm => ?_⟩
              have h9 := h.frn s e2
              rcases (h.lf.2 s).1 hm with ⟨-, i, hi, -⟩ | ⟨-, m, -, hm2⟩
              · exact h9.2.2.2 i hi
              · exact h9.2.2.1 m hm2
      · by_cases e3 : s < 2
        · exact ⟨(h.acct s hsn).2 (.inl e3), fun hm => by have := hlf2 s hm; omega⟩
        · rcases h0.cur i s hi (by omega) with e | e
          · have h9 := h.frn s (h.frk s e)
            refine ⟨(h.acct s hsn).2 (.inr (.inr (.inr (h.frk s e)))), fun hm => ?_⟩
            rcases (h.lf.2 s).1 hm with ⟨-, i', hi', -⟩ | ⟨-, m, -, hm2⟩
            · exact h9.2.2.2 i' hi'
            · exact h9.2.2.1 m hm2
          · refine ⟨(h.acct s hsn).2 (.inr (.inr (.inl ⟨i, e⟩))), fun hm => ?_⟩
            rcases (h.lf.2 s).1 hm with ⟨-, i', hi', hn'⟩ | ⟨-, m, -, hm2⟩
            · have := h0.jO i i' s e hi' (by omega)
              subst this
              exact hn' hi
            · have := h0.dis m i s hm2 e; omega
      · cases e
  · rw [show cntN (fun _ => false) 64 = 0 from cntN_false fun _ _ => rfl]
    exact Nat.zero_le _
  · rw [Dk.rooted_rd, if_pos rfl]; rfl
  · rw [Dk.rooted_rd] at hr
    by_cases e : i = (ep + 1) % 2
    · rw [if_pos e] at hr
      have hr' : rootL (ep + 1) S.pg D0.sz = rootL e' pg' D0.sz := by
        have h9 : (S.D.rooted (ep + 1) S.pg).sz = D0.sz := hn.2.1
        rw [h9] at hr
        rw [← hr, hn.2.1]
      obtain ⟨e1, e2⟩ := rootL_inj hfit hz.2.2.2 hr'
      exact ⟨by omega, fun _ => e2.symm⟩
    · rw [if_neg e] at hr
      have e1 : S.D.rd (i : Int) = D0.rd (i : Int) := h.rd i fun e => by have := (h.frn i e).1; omega
      rw [e1] at hr
      have h9 : (S.D.rooted (ep + 1) S.pg).sz = D0.sz := hn.2.1
      rw [h9] at hr
      obtain ⟨e2, -⟩ := h0.dur.other i e' pg' hi hg hp hr
      exact ⟨by omega, fun e3 => by omega⟩
  · have h9 : (S.D.rooted (ep + 1) S.pg).sz = D0.sz := hn.2.1
    rw [h9] at hi ⊢
    cases hd : tc k with
    | false =>
      rw [h0.same_tab hd hi]
      rw [h.keep k hd] at hk
      exact h0.dur.tab0 k hk i hi
    | true =>
      rcases h.new k 0 hd hk with ⟨-, e⟩ | ⟨e, -⟩
      · unfold someB at e
        have := List.any_eq_false.1 e i (List.mem_range.2 hi)
        simpa using this
      · omega
  · have h9 : (S.D.rooted (ep + 1) S.pg).sz = D0.sz := hn.2.1
    rw [h9]
    exact (hrd k s hk hs).1
  · have h9 : (S.D.rooted (ep + 1) S.pg).sz = D0.sz := hn.2.1
    rw [h9]
    exact (hrd k s hk hs).2
  · rw [Dk.rooted_rd] at hx
    split at hx
    · exact rootL_byte x hx
    · exact h.byt s (by have : s < S.D.n := hs; omega) x hx
end

end Go.Proofs.YtjlfnebkibgfmaaGreatDoor

/- The pager: Commit. -/
namespace Go.Proofs.YtjlfnebkibgfmaaGreatDoor
open Go.RowKit Go.Maps

section
variable {w w' : World} {L : Nat → Nat} {p d b ca c M1 s1 M2 s2 : Nat} {X : Gp} {o : Cg} {A : Option Addr} {vp vt vw vl v : Value} {vo : Option Addr} {F : Nat → Prop}
/-- No change is open any more. -/
theorem GIn.close (h : GIn w L p X d b A ca vp vt vo) :
    ∃ L', GIn (w.setCell ⟨p, 6, none⟩ (.pointer none)) L' p { X with op := none } d b A ca vp vt none ∧ Rch (fun j => L j ≠ 0) (fun j => L' j ≠ 0) w (w.setCell ⟨p, 6, none⟩ (.pointer none)) := by
  have hc : Chg (fun j => j = p) w (w.setCell ⟨p, 6, none⟩ (.pointer none)) := (Chg.refl (fun j => j = p) w).setCell (p := ⟨p, 6, none⟩) (fun _ => rfl) _
  have hcL : Chg (fun j => L j = 1) w (w.setCell ⟨p, 6, none⟩ (.pointer none)) := hc.mono fun i _ e => e ▸ h.lp
  obtain ⟨L', hL'⟩ : ∃ L' : Nat → Nat, L' = fun j => if L j ≤ 5 then L j else 0 := ⟨_, rfl⟩
  have lo : ∀ j m, m ≠ 0 → m ≤ 5 → (L' j = m ↔ L j = m) := fun j m h0 h4 => by
    rw [hL']
    dsimp only
    split <;> omega
  have hset : ∀ m, m ≠ 0 → m ≤ 5 → (fun j => L' j = m) = (fun j => L j = m) := fun m h1 h2 => funext fun j => propext (lo j m h1 h2)
  have lz : ∀ j, L' j ≠ 0 → L j ≠ 0 := fun j hj e => by rw [hL'] at hj; simp [e] at hj
  refine ⟨L', ⟨?_, (lo p 1 (by omega) (by omega)).2 h.lp, ?_, h.pol.chg hcL fun j hj e => by have := h.lo j hj; omega, fun j hj => (lo j 3 (by omega) (by omega)).2 (h.lo j hj), own_lab h.pgs h.lg hcL (by omega), fun j hj => (lo j 4 (by omega) (by omega)).2 (h.lg j hj),
      own_lab h.tbl h.lb hcL (by omega), fun j hj => (lo j 5 (by omega) (by omega)).2 (h.lb j hj), rfl, fun j hj => Nat.lt_of_lt_of_le (h.lt j (lz j hj)) hc.size, ?_, tab_chg h.tab hcL (by rw [h.l0]; omega)⟩, hc.mono fun i _ e => by rw [e, h.lp]; omega, fun j hj => .inl (lz j hj)⟩
  · have := h.blk.put 6 (.pointer none)
    simpa using this
  · rw [hset 2 (by omega) (by omega)]
    exact h.dsk.chg hcL fun j hj e => by omega
  · rw [hL']; simp [h.l0]
/-- Other table pages, and the next epoch. -/
theorem GIn.pgset {l : List Nat} {b0 e : Nat} (h : GIn w L p X d b A ca vp vt vo) (ho : OutR b0 w (fun j => L j ≠ 0) 3 v l.length (nv l)) (h0 : 0 < b0) (he : (e : Int) = (X.epoch : Int) + 1) :
    ∃ L', GIn ((w.setCell ⟨p, 3, none⟩ v).setCell ⟨p, 1, none⟩ (.int .i64 ((X.epoch : Int) + 1))) L' p { X with pages := l, epoch := e } d b A ca v vt vo ∧ Chg (fun j => L j ≠ 0) w ((w.setCell ⟨p, 3, none⟩ v).setCell ⟨p, 1, none⟩ (.int .i64 ((X.epoch : Int) + 1))) ∧ ∀ j, L' j ≠ 0 → L j ≠ 0 ∨ b0 ≤ j := by
  have hc : Chg (fun j => j = p) w ((w.setCell ⟨p, 3, none⟩ v).setCell ⟨p, 1, none⟩ (.int .i64 ((X.epoch : Int) + 1))) := ((Chg.refl (fun j => j = p) w).setCell (p := ⟨p, 3, none⟩) (fun _ => rfl) _).setCell (p := ⟨p, 1, none⟩) (fun _ => rfl) _
  have hcL : Chg (fun j => L j = 1) w ((w.setCell ⟨p, 3, none⟩ v).setCell ⟨p, 1, none⟩ (.int .i64 ((X.epoch : Int) + 1))) := hc.mono fun i _ e => e ▸ h.lp
  classical
  obtain ⟨L', hL'⟩ : ∃ L' : Nat → Nat, L' = fun j => if v.ownBlock = some j then 4 else if L j = 4 then 0 else L j := ⟨_, rfl⟩
  have hv0 : ∀ j, v.ownBlock = some j → L j = 0 := fun j hj => by
    by_cases e : L j = 0
    · exact e
    · exact absurd e (ho.out j hj)
  have lo : ∀ j m, m ≠ 0 → m ≠ 4 → (L' j = m ↔ L j = m) := fun j m h1 h2 => by
    rw [hL']
    dsimp only
    split
    · rename_i e
      have := hv0 j e
      omega
    · split <;> omega
  have hset : ∀ m, m ≠ 0 → m ≠ 4 → (fun j => L' j = m) = (fun j => L j = m) := fun m h1 h2 => funext fun j => propext (lo j m h1 h2)
  have l4 : ∀ j, v.ownBlock = some j → L' j = 4 := fun j hj => by rw [hL']; dsimp only; rw [if_pos hj]
  have lz : ∀ j, L' j ≠ 0 → L j ≠ 0 ∨ v.ownBlock = some j := fun j hj => by
    by_cases e : v.ownBlock = some j
    · exact .inr e
    · left
      intro e2
      rw [hL'] at hj
      simp [e, e2] at hj
  refine ⟨L', ⟨?_, (lo p 1 (by omega) (by omega)).2 h.lp, ?_, h.pol.chg hcL fun j hj e => by have := h.lo j hj; omega, fun j hj => (lo j 3 (by omega) (by omega)).2 (h.lo j hj), own_base (own_chg ho.own hcL fun j hj e => by have := hv0 j hj; omega) (Nat.zero_le _), l4,
      own_lab h.tbl h.lb hcL (by omega), fun j hj => (lo j 5 (by omega) (by omega)).2 (h.lb j hj), ?_, fun j hj => ?_, ?_, tab_chg h.tab hcL (by rw [h.l0]; omega)⟩, hc.mono fun i _ e => by rw [e, h.lp]; omega, fun j hj => (lz j hj).imp id fun e => (ho.own.lt j e).1⟩
  · have := (h.blk.put 3 v).put 1 (.int .i64 ((X.epoch : Int) + 1))
    rw [he]
    simpa using this
  · rw [hset 2 (by omega) (by omega)]
    exact h.dsk.chg hcL fun j hj e => by omega
  · have hop := h.opn
    show OpnIn _ L' vo X.op
    cases hx : X.op with
    | none => rw [hx] at hop; exact hop
    | some o =>
      rw [hx] at hop
      obtain ⟨c, vw, M1, s1, vl, M2, s2, rfl, hi⟩ := hop
      refine ⟨c, vw, M1, s1, vl, M2, s2, rfl, ⟨hi.blk.chg hcL (by rw [hi.lc]; omega), (lo _ 6 (by omega) (by omega)).2 hi.lc, own_lab hi.was hi.lw hcL (by omega), fun j hj => (lo j 7 (by omega) (by omega)).2 (hi.lw j hj), hi.fr.chg hcL (by rw [hi.lf]; omega), (lo _ 8 (by omega) (by omega)).2 hi.lf,
        own_lab hi.lft hi.ll hcL (by omega), fun j hj => (lo j 9 (by omega) (by omega)).2 (hi.ll j hj), hi.tch.chg hcL (by rw [hi.lt]; omega), (lo _ 10 (by omega) (by omega)).2 hi.lt, hi.n1, hi.n2⟩⟩
  · rcases lz j hj with e | e
    · exact Nat.lt_of_lt_of_le (h.lt j e) hc.size
    · exact Nat.lt_of_lt_of_le (ho.own.lt j e).2 hc.size
  · rw [hL']
    dsimp only
    rw [if_neg (fun e => by have := (ho.own.lt 0 e).1; omega), h.l0]
    simp
end

end Go.Proofs.YtjlfnebkibgfmaaGreatDoor

/- The pager: Commit, walked. -/
namespace Go.Proofs.YtjlfnebkibgfmaaGreatDoor
open Go.RowKit Go.Maps

/-- A change committed that touched no table page. -/
def Gp.done (X : Gp) (o : Cg) : Gp := { X with free := gvn X.free fun s => decide (s ∈ o.left), op := none }
/-- A change committed. -/
def Gp.comm (X : Gp) (S : TS) : Gp := { X with D := S.D.rooted (X.epoch + 1) S.pg, epoch := X.epoch + 1, pages := S.pg, free := gvn S.fe fun s => decide (s ∈ S.lf), op := none }

theorem TInv.pg4 {D0 : Dk} {ep : Nat} {pg0 tb old lf0 : List Nat} {fe0 : List Bool} {fr0 tc dn : Nat → Bool} {S : TS} {rem : Nat} (h0 : Inv D0 ep pg0 tb old fe0 fr0 lf0 tc) (h : TInv D0 pg0 tb old fr0 S dn rem) : ∀ s ∈ S.pg, s < 4096 := fun s hs => by
  have hz := h0.sz
  obtain ⟨k, hk⟩ := List.mem_iff_getElem?.1 hs
  by_cases e : s = 0
  · omega
  · cases hd : dn k with
    | false =>
      rw [h.keep k hd] at hk
      have := (h0.rP k s hk e).2; omega
    | true =>
      rcases h.new k s hd hk with ⟨e1, -⟩ | ⟨e1, e2, -⟩
      · omega
      · have := (h.frn s e2).2.1; omega
theorem dnOf_all (ks : List Nat) : dnOf ks ks.length = fun s => decide (s ∈ ks) := by funext s; unfold dnOf; rw [List.take_length]

set_option maxRecDepth 100000 in
set_option maxHeartbeats 3200000 in
theorem gcommit_touched (p : Nat) (F : Nat → Prop) (X : Gp) (o : Cg) (w : World) (h : GS w p F X) (hok : X.Ok) (hx : X.op = some o) (hne : 0 < (keysL o.touched 64).length) (hep : X.epoch < 1099511627776) (hfit : fitsN X.pages.length X.D.sz = true) :
    Calls Tryz.prog 12 #[.pointer (some ⟨p, 0, none⟩)] w fun e w' => e = .returned (.int .i64 0) ∧ ∃ S, TInv X.D X.pages X.table o.was o.fresh S o.touched 0 ∧ GTo w w' p F (X.comm S) := by
  have hrd := gready_any p F X w h
  rw [hok.rdy hx] at hrd
  have htb := gtables_ok p F X o w h hok hx hne
  have hv := hok.inv
  simp only [Gp.old, Gp.fr, Gp.lf, Gp.tc, hx] at hv
  have hup := hok.up
  have hpos := tab_pos h.tab
  obtain ⟨L, d, b, A, ca, vp, vt, vo, h, hF⟩ := h
  have ho := h.opn
  rw [hx] at ho
  obtain ⟨c, vw, M1, s1, vl, M2, s2, rfl, hi2⟩ := ho
  obtain ⟨c0, f0, s0⟩ := h.blk.facts
  obtain ⟨c1, f1, s1'⟩ := hi2.blk.facts
  have hlen := hi2.tch.len (t := 46) Tryz.underlying46 3
  have hs2 : 0 < s2 := by rw [hi2.n2.1, ← keysL_len]; exact hne
  have hs2' : s2 ≤ 64 := by rw [hi2.n2.1]; exact cntN_le _ _
  have hdn : dnOf (keysL o.touched 64) (keysL o.touched 64).length = o.touched := by
    rw [dnOf_all]
    funext k
    by_cases e : o.touched k = true
    · rw [e]; exact decide_eq_true (mem_keysL.2 ⟨hi2.n2.2 k e, e⟩)
    · rw [decide_eq_false (fun q => e (mem_keysL.1 q).2)]
      exact (by simpa using e : o.touched k = false).symm
  have t1 : decide ((0 : Int) < (s2 : Int)) = true := decide_eq_true (by omega)
  have H := Lib.hid (And.intro hrd (And.intro htb (And.intro hv (And.intro hup (And.intro hdn (And.intro hx hfit))))))
  clear h hi2 hrd htb hv hup hdn hok hx hfit hF hne
  go_enter Tryz.func12, Tryz.ntmps12
  go_wp2_with (go_at_call 23; (refine H.out.1.mono ?_); rintro e w1 ⟨rfl, rfl⟩)
  clear c0 f0 s0 c1 f1 s1' hlen
  refine H.out.2.1.mono ?_
  rintro e w1 ⟨S, F1, v, rfl, hT, ⟨L1, d1, b1, A1, ca1, vp1, vt1, vo1, hG, hF1⟩, hr1, hO⟩
  obtain rfl : F1 = fun j => L1 j ≠ 0 := funext fun j => propext (hF1 j)
  obtain ⟨Av, cv, rfl, -⟩ := own_shape hO.own
  obtain ⟨cc, vwc, M1c, s1c, vlc, M2c, s2c, rfl, -⟩ := (show OpnIn w1 L1 vo1 (some { o with fresh := S.fr, left := S.lf }) from hG.opn)
  rw [H.out.2.2.2.2.1] at hT
  have hSn := hT.n
  have hpl := hT.pgl
  obtain ⟨x0, y0, z0⟩ := hG.blk.facts
  have hfl := dflush_ok d1 _ S.D w1 hG.dsk (by rw [hSn.2.2.1]; exact H.out.2.2.2.1.2.1) (by rw [hSn.2.2.2]; exact H.out.2.2.2.1.2.2)
  have H1 := Lib.hid (And.intro hG (And.intro hT (And.intro hr1 (And.intro hO (And.intro hfl (And.intro hSn hpl))))))
  clear hG hT hr1 hO hfl hSn hpl hF1
  go_wp2_with fail
  refine H1.out.2.2.2.2.1.mono ?_
  rintro e w2 ⟨rfl, h2⟩
  obtain ⟨L2, hG2, ht2⟩ := H1.out.1.disk h2
  have hr2 := (ht2.s (K := fun m => m = 2) H1.out.1.lt rfl (by omega)).rch (by omega) (fun j => Iff.rfl)
  have hO2 := H1.out.2.2.2.1.rch hr2
  clear x0 y0 z0
  have x0 := (hG2.blk.drew).cell 0
  have x1 := (hG2.blk.drew).cell 1
  have H2 := Lib.hid (And.intro hG2 (And.intro hr2 hO2))
  clear h2 hG2 ht2 hr2 hO2
  have w9 : IntKind.i64.wrap ((X.epoch : Int) + 1) = (X.epoch : Int) + 1 := by have := wrap_nat (n := X.epoch + 1) (by omega); simpa using this
  have x1' : w2.drew.cell? ⟨p, 1, none⟩ = some (.int .i64 X.epoch) := x1
  have x0' : w2.drew.cell? ⟨p, 0, none⟩ = some (.pointer (some ⟨d1, 0, none⟩)) := x0
  clear x0 x1
  go_wp2_with fail
  have hS : w2.drew.cell? ⟨p, 0, none⟩ = some (.pointer (some ⟨d1, 0, none⟩)) ∧ w2.drew.cell? ⟨p, 1, none⟩ = some (.int .i64 X.epoch) := ⟨x0', x1'⟩
  refine wp_region_held_drew (S := fun W' => W'.cell? ⟨p, 0, none⟩ = some (.pointer (some ⟨d1, 0, none⟩)) ∧ W'.cell? ⟨p, 1, none⟩ = some (.int .i64 X.epoch)) (by kernel_rfl) hS (fun hHeld => ?_)
  refine wpAnyH_take (i := 0) (v := ?_) rfl (by kernel_rfl) (by kernel_rfl) (by kernel_rfl) (fun _ _ _ h => h) (Or.inl ⟨by rfl, ?_⟩) hHeld ?_
  rotate_left
  · (intro w hSw; (try dsimp only at hSw); go_simp) <;> with_reducible rfl
  (try simp only [Act.put, List.setIfInBounds_toArray, List.set_cons_zero, List.set_cons_succ, List.getElem_toArray, List.getElem_cons_zero, List.getElem_cons_succ])
  refine wpAnyH_take (i := 1) (v := ?_) rfl (by kernel_rfl) (by kernel_rfl) (by kernel_rfl) (fun _ _ _ h => h) (Or.inl ⟨by rfl, ?_⟩) hHeld ?_
  rotate_left
  · (intro w hSw; (try dsimp only at hSw); go_simp) <;> with_reducible rfl
  (try simp only [Act.put, List.setIfInBounds_toArray, List.set_cons_zero, List.set_cons_succ, List.getElem_toArray, List.getElem_cons_zero, List.getElem_cons_succ])
  refine wpAnyH_take (i := 2) (v := ?_) rfl (by kernel_rfl) (by kernel_rfl) (by kernel_rfl) (fun _ _ _ h => h) (Or.inl ⟨by rfl, ?_⟩) hHeld ?_
  rotate_left
  · (intro w hSw; (try dsimp only at hSw); go_simp) <;> with_reducible rfl
  (try simp only [Act.put, List.setIfInBounds_toArray, List.set_cons_zero, List.set_cons_succ, List.getElem_toArray, List.getElem_cons_zero, List.getElem_cons_succ])
  refine wpAnyH_take (i := 3) (v := ?_) rfl (by kernel_rfl) (by kernel_rfl) (by kernel_rfl) (fun _ _ _ h => h) (Or.inl ⟨by rfl, ?_⟩) hHeld ?_
  rotate_left
  · (intro w hSw; (try dsimp only at hSw); go_simp) <;> with_reducible rfl
  (try simp only [Act.put, List.setIfInBounds_toArray, List.set_cons_zero, List.set_cons_succ, List.getElem_toArray, List.getElem_cons_zero, List.getElem_cons_succ])
  refine wpAnyH_take (i := 4) (v := ?_) rfl (by kernel_rfl) (by kernel_rfl) (by kernel_rfl) (fun _ _ _ h => h) (Or.inl ⟨by rfl, ?_⟩) hHeld ?_
  rotate_left
  · (intro w hSw; (try dsimp only at hSw); go_simp) <;> with_reducible rfl
  (try simp only [Act.put, List.setIfInBounds_toArray, List.set_cons_zero, List.set_cons_succ, List.getElem_toArray, List.getElem_cons_zero, List.getElem_cons_succ])
  refine wpAnyH_take (i := 5) (v := ?_) rfl (by kernel_rfl) (by kernel_rfl) (by kernel_rfl) (fun _ _ _ h => h) (Or.inl ⟨by rfl, ?_⟩) hHeld ?_
  rotate_left
  · (intro w hSw; (try dsimp only at hSw); go_simp) <;> with_reducible rfl
  (try simp only [Act.put, List.setIfInBounds_toArray, List.set_cons_zero, List.set_cons_succ, List.getElem_toArray, List.getElem_cons_zero, List.getElem_cons_succ])
  refine wpAnyH_take (i := 6) (v := ?_) rfl (by kernel_rfl) (by kernel_rfl) (by kernel_rfl) (fun _ _ _ h => h) (Or.inl ⟨by rfl, ?_⟩) hHeld ?_
  rotate_left
  · (intro w hSw; (try dsimp only at hSw); go_simp) <;> with_reducible rfl
  (try simp only [Act.put, List.setIfInBounds_toArray, List.set_cons_zero, List.set_cons_succ, List.getElem_toArray, List.getElem_cons_zero, List.getElem_cons_succ])
  refine wpAnyH_take (i := 7) (v := ?_) rfl (by kernel_rfl) (by kernel_rfl) (by kernel_rfl) (fun _ _ _ h => h) (Or.inl ⟨by rfl, ?_⟩) hHeld ?_
  rotate_left
  · (intro w hSw; (try dsimp only at hSw); go_simp) <;> with_reducible rfl
  (try simp only [Act.put, List.setIfInBounds_toArray, List.set_cons_zero, List.set_cons_succ, List.getElem_toArray, List.getElem_cons_zero, List.getElem_cons_succ])
  refine wpAnyH_take (i := 8) (v := ?_) rfl (by kernel_rfl) (by kernel_rfl) (by kernel_rfl) (fun _ _ _ h => h) (Or.inl ⟨by rfl, ?_⟩) hHeld ?_
  rotate_left
  · (intro w hSw; (try dsimp only at hSw); go_simp) <;> with_reducible rfl
  (try simp only [Act.put, List.setIfInBounds_toArray, List.set_cons_zero, List.set_cons_succ, List.getElem_toArray, List.getElem_cons_zero, List.getElem_cons_succ])
  refine wpAnyH_take (i := 9) (v := ?_) rfl (by kernel_rfl) (by kernel_rfl) (by kernel_rfl) (fun _ _ _ h => h) (Or.inl ⟨by rfl, ?_⟩) hHeld ?_
  rotate_left
  · (intro w hSw; (try dsimp only at hSw); go_simp) <;> with_reducible rfl
  (try simp only [Act.put, List.setIfInBounds_toArray, List.set_cons_zero, List.set_cons_succ, List.getElem_toArray, List.getElem_cons_zero, List.getElem_cons_succ])
  refine wpAnyH_take (i := 10) (v := ?_) rfl (by kernel_rfl) (by kernel_rfl) (by kernel_rfl) (fun _ _ _ h => h) (Or.inl ⟨by rfl, ?_⟩) hHeld ?_
  rotate_left
  · (intro w hSw; (try dsimp only at hSw); go_simp) <;> with_reducible rfl
  (try simp only [Act.put, List.setIfInBounds_toArray, List.set_cons_zero, List.set_cons_succ, List.getElem_toArray, List.getElem_cons_zero, List.getElem_cons_succ])
  refine wpAnyH_ready (rs := [11]) (by kernel_rfl) (by simp) ?_
  refine AllReadyH.cons rfl (fun K hK => ?_) AllReadyH.nil
  go_simp
  have hsv := save_ok d1 (fun q => L2 q = 2) S.D.flushed (X.epoch + 1) S.pg Av cv w2.drew (H2.out.1.dsk.grew ((Chg.refl _ _).drew)) (by rw [← H.out.2.2.2.1.2.1]; exact H1.out.2.2.2.2.2.1.2.2.1) (by rw [← H.out.2.2.2.1.2.2]; exact H1.out.2.2.2.2.2.1.2.2.2) (by have h8 := H.out.2.2.1.sz; have h9 := H1.out.2.2.2.2.2.1.1; show 2 ≤ S.D.n; omega)
    (by have := Sl.of_own (own_base H2.out.2.2.own (Nat.zero_le _)); rw [H1.out.2.2.2.2.2.2]; exact this.grew ((Chg.refl _ _).drew)) (by omega) (by omega) (by rw [H1.out.2.2.2.2.2.2]; exact H.out.2.2.1.pg64) (TInv.pg4 H.out.2.2.1 H1.out.2.1) (by
      show (bodyL (X.epoch + 1) S.pg).length + 14 ≤ S.D.sz
      rw [H1.out.2.2.2.2.2.1.2.1]
      exact body_fits (by rw [H1.out.2.2.2.2.2.2]; exact H.out.2.2.2.2.2.2) (by omega) (TInv.pg4 H.out.2.2.1 H1.out.2.1))
  rw [H1.out.2.2.2.2.2.2, show (((X.epoch + 1 : Nat)) : Int) = (X.epoch : Int) + 1 from by simp] at hsv
  refine hsv.mono ?_
  clear hsv
  rintro e w3 ⟨rfl, h3⟩
  obtain ⟨L3, hG3, ht3⟩ := (H2.out.1.grew ((Chg.refl _ _).drew)).disk h3
  have hr3 := (ht3.s (K := fun m => m = 2) (H2.out.1.grew ((Chg.refl _ _).drew)).lt rfl (by omega)).rch (by omega) (fun j => Iff.rfl)
  have hO3 := (H2.out.2.2.grew ((Chg.refl _ _).drew)).rch hr3
  have hH3 : w3.cell? ⟨p, 0, none⟩ = some (.pointer (some ⟨d1, 0, none⟩)) ∧ w3.cell? ⟨p, 1, none⟩ = some (.int .i64 X.epoch) := ⟨hG3.blk.cell 0, hG3.blk.cell 1⟩
  refine hK.out _ _ hH3 (fun hHeld => ?_)
  clear hK K
  (try simp only [Act.put, List.setIfInBounds_toArray, List.set_cons_zero, List.set_cons_succ, List.getElem_toArray, List.getElem_cons_zero, List.getElem_cons_succ])
  refine wpAnyH_ready (rs := [12]) (by kernel_rfl) (by simp) ?_
  refine AllReadyH.cons rfl (fun K hK => ?_) AllReadyH.nil
  go_simp
  refine hK.out _ _ hH3 (fun hHeld => ?_)
  clear hK K
  (try simp only [Act.put, List.setIfInBounds_toArray, List.set_cons_zero, List.set_cons_succ, List.getElem_toArray, List.getElem_cons_zero, List.getElem_cons_succ])
  refine wpAnyH_done (by kernel_rfl) ?_ _
  clear hHeld hH3 hS x0' x1'
  obtain ⟨L4, hG4, hc4, hn4⟩ := hG3.pgset (e := X.epoch + 1) (l := S.pg) (by rw [H1.out.2.2.2.2.2.2]; exact hO3) hpos (by simp; rfl)
  have hr3F := H1.out.2.2.1.trans (H2.out.2.1.trans ((Rch.grew ((Chg.refl _ _).drew)).trans hr3))
  obtain ⟨y0, y1, y2⟩ := hG3.blk.facts
  obtain ⟨W4, hW4⟩ : ∃ W, (w3.setCell ⟨p, 3, none⟩ (.slice Av X.pages.length cv)).setCell ⟨p, 1, none⟩ (.int .i64 ((X.epoch : Int) + 1)) = W := ⟨_, rfl⟩
  obtain ⟨XC4, hXC⟩ : ∃ Y : Gp, ({ X.comm S with free := S.fe, op := some { o with fresh := S.fr, left := S.lf } } : Gp) = Y := ⟨_, rfl⟩
  have hXop : XC4.op = some { o with fresh := S.fr, left := S.lf } := by rw [← hXC]
  obtain ⟨vp4, hvp4⟩ : ∃ v, Value.slice Av X.pages.length cv = v := ⟨_, rfl⟩
  have hG4' : GIn W4 L4 p XC4 d1 b1 A1 ca1 vp4 vt1 (some ⟨cc, 0, none⟩) := by rw [← hXC, ← hvp4]; exact hW4 ▸ hG4
  have hG4f : GIn W4 L4 p { XC4 with free := S.fe } d1 b1 A1 ca1 vp4 vt1 (some ⟨cc, 0, none⟩) := by rw [show ({ XC4 with free := S.fe } : Gp) = XC4 from by rw [← hXC]]; exact hG4'
  have HXC := Lib.hid hXC
  have hr4 : Rch F (fun j => L4 j ≠ 0) w W4 := ⟨Chg.trans hr3F.chg (hW4 ▸ hc4) fun i hi e => (hr3F.new i e).resolve_right (by omega), fun j hj => (hn4 j hj).elim (hr3F.new j) .inr⟩
  have HW4 := Lib.hid hW4
  obtain ⟨cc', vw4, M14, s14, vl4, M24, s24, e4, hi4⟩ := (show OpnIn W4 L4 (some ⟨cc, 0, none⟩) (some { o with fresh := S.fr, left := S.lf }) from hXop ▸ hG4'.opn)
  obtain rfl : cc = cc' := by injection e4 with e; injection e
  obtain ⟨Al, cl, rfl, -⟩ := own_shape hi4.lft
  obtain ⟨z0, z1, z2⟩ := hG4'.blk.facts
  obtain ⟨z3, z4, z5⟩ := hi4.blk.facts
  have hlf4 := TInv.lfle H.out.2.2.1 H1.out.2.1
  have hfe4 : S.fe.length ≤ 4096 := by have h8 := H1.out.2.1.fel; have h9 := H.out.2.2.1.sz; omega
  have hlff : ∀ s ∈ S.lf, s < S.fe.length ∧ S.fe.getD s false = false := fun s hs => by
    have h8 := H1.out.2.1.fel
    rcases (H1.out.2.1.lf.2 s).1 hs with ⟨-, i, hi, -⟩ | ⟨e, k, -, hk⟩
    · have := H.out.2.2.1.rO i s hi
      exact ⟨by omega, (H1.out.2.1.acct s this).2 (.inr (.inr (.inl ⟨i, hi⟩)))⟩
    · have := (H.out.2.2.1.rP k s hk e).2
      exact ⟨by omega, (H1.out.2.1.acct s this).2 (.inr (.inl ⟨k, hk⟩))⟩
  have HL := Lib.hid (And.intro hG4f (And.intro hi4 (And.intro H1.out.2.1.lf.1 (And.intro hlff (And.intro hr4 hfe4)))))
  clear h3 hG3 ht3 hr3 hO3 hG4 hc4 hn4 hr3F hW4 hG4' hG4f hi4 hr4 e4 hlff hvp4 hXop hXC
  go_wp2_with (rw [HW4.out])
  clear z0 z1 z2 z3 z4 z5 y0 y1 y2
  go_loopg [72] S.lf.length (fun q v wr => ∃ i : Nat, q = S.lf.length - i ∧ i ≤ S.lf.length ∧ v = .int .i64 i ∧ GIn wr L4 p { XC4 with free := gvn S.fe (dnOf S.lf i) } d1 b1 A1 ca1 vp4 vt1 (some ⟨cc, 0, none⟩) ∧ Chg (fun j => L4 j = 3) W4 wr)
  case atStart =>
    refine ⟨0, rfl, Nat.zero_le _, rfl, ?_, Chg.refl _ _⟩
    rw [dnOf_zero, gvn_none]
    exact HL.out.1
  case round =>
    obtain ⟨i, rfl, hi, rfl, hG, hC⟩ := hrel
    by_cases hlt : i < S.lf.length
    · obtain ⟨s, hs⟩ : ∃ s, S.lf[i]? = some s := ⟨_, List.getElem?_eq_getElem hlt⟩
      have hl3 := own_lab HL.out.2.1.lft HL.out.2.1.ll hC (by omega)
      have hl3' : wr.ownsRow 0 3 1 (.slice Al S.lf.length cl) S.lf.length (nv S.lf) := hl3
      obtain ⟨gl, rfl, hgl⟩ := own_block hl3' (by omega)
      have cs : wr.cell? ⟨gl, i, none⟩ = some (.int .i64 s) := by
        have := hl3'.cells (g := gl) rfl i (.int .i64 s) (by simp [nv, hs])
        rwa [Addr.add_lit, Nat.zero_add] at this
      obtain ⟨hfs1, hfs2⟩ := HL.out.2.2.2.1 s (List.mem_of_getElem? hs)
      have hs4 : s < 4096 := by have := HL.out.2.2.2.2.2; omega
      have hgv := pgive_any b1 s _ A1 ca1 wr hG.pol (by show (gvn S.fe _).length ≤ 65536; rw [gvn_len]; have := HL.out.2.2.2.2.2; omega)
      have htl := gvn_give S.fe (dnOf S.lf i) s hfs1 hfs2 (dnOf_new HL.out.2.2.1 hs)
      have hgv2 : Calls Tryz.prog 24 #[.pointer (some ⟨b1, 0, none⟩), .int .i64 (s : Int)] wr fun e w' => e = .returned (.int .i64 0) ∧ PIn w' b1 (gvn S.fe (setB (dnOf S.lf i) s true)) A1 ca1 ∧ Chg (PF b1 A1) wr w' := by
        rw [← show (toL (gvn S.fe (dnOf S.lf i)) (s : Int) true).1 = gvn S.fe (setB (dnOf S.lf i) s true) from by rw [htl]]
        refine hgv.mono fun e w' h => ?_
        rw [show (toL ({ XC4 with free := gvn S.fe (dnOf S.lf i) } : Gp).free (s : Int) true) = (gvn S.fe (setB (dnOf S.lf i) s true), 0) from htl] at h
        rw [htl]
        exact h
      have HR := Lib.hid (And.intro hG (And.intro hgv2 (And.intro hs hC)))
      obtain ⟨z0, z1, z2⟩ := hG.blk.facts
      clear hG hgv hgv2 htl hfs1 hfs2 hs hC hl3 hl3'
      go_wp2_with (go_at_call 24; (refine HR.out.2.1.mono ?_); rintro e w5 ⟨rfl, h4, h5⟩; have H5 := Lib.hid (And.intro h4 h5); clear h4 h5 z0 z1 z2)
      obtain ⟨hG5, ht5⟩ := HR.out.1.pool H5.out.1 H5.out.2
      go_roundg (S.lf.length - (i + 1))
      case measure => omega
      case rel =>
        refine ⟨i + 1, rfl, by omega, by simp, ?_, Chg.trans HR.out.2.2.2 ht5.chg fun j _ e => e⟩
        rw [dnOf_step HR.out.2.2.1]
        exact hG5
    · obtain rfl : i = S.lf.length := by omega
      have HD := Lib.hid (And.intro hG hC)
      obtain ⟨z0, z1, z2⟩ := hG.blk.facts
      clear hG hC
      go_wp2
      go_ret
      obtain ⟨L9, hG9, hr9⟩ := HD.out.1.close
      have hr8 : Rch (fun j => L4 j ≠ 0) (fun j => L4 j ≠ 0) W4 wr := ⟨HD.out.2.mono fun j _ e => by omega, fun j hj => .inl hj⟩
      rw [dnOf_all] at hG9

      refine ⟨rfl, S, H1.out.2.1, fun j => L9 j ≠ 0, ?_, (HL.out.2.2.2.2.1.trans (hr8.trans hr9)).chg, (HL.out.2.2.2.2.1.trans (hr8.trans hr9)).new⟩
      rw [← HXC.out] at hG9
      exact hG9.gs

end Go.Proofs.YtjlfnebkibgfmaaGreatDoor

/- The pager, as its pages are: Commit. -/
namespace Go.Proofs.YtjlfnebkibgfmaaGreatDoor
open Go.RowKit Go.Maps

set_option maxRecDepth 100000 in
set_option maxHeartbeats 3200000 in
theorem gcommit_same (p : Nat) (F : Nat → Prop) (X : Gp) (o : Cg) (w : World) (h : GS w p F X) (hok : X.Ok) (hx : X.op = some o) (hno : ∀ k, o.touched k = false) :
    Calls Tryz.prog 12 #[.pointer (some ⟨p, 0, none⟩)] w fun e w' => e = .returned (.int .i64 0) ∧ GTo w w' p F (X.done o) := by
  have hrd := gready_any p F X w h
  rw [hok.rdy hx] at hrd
  have hv := hok.inv
  simp only [Gp.old, Gp.fr, Gp.lf, Gp.tc, hx] at hv
  obtain ⟨L, d, b, A, ca, vp, vt, vo, h, hF⟩ := h
  have ho := h.opn
  rw [hx] at ho
  obtain ⟨cc, vw, M1, s1, vl, M2, s2, rfl, hi2⟩ := ho
  obtain ⟨Al, cl, rfl, -⟩ := own_shape hi2.lft
  obtain ⟨c0, f0, s0⟩ := h.blk.facts
  obtain ⟨c1, f1, s1'⟩ := hi2.blk.facts
  have hlen := hi2.tch.len (t := 46) Tryz.underlying46 3
  have hs2 : s2 = 0 := by rw [hi2.n2.1]; exact cntN_false fun k _ => hno k
  rw [hs2] at hlen
  have hlff : ∀ s ∈ o.left, s < X.free.length ∧ X.free.getD s false = false := fun s hs => by
    obtain ⟨-, i, hi, -⟩ := (hv.lf.2 s).1 hs
    have := hv.rO i s hi
    exact ⟨by rw [hv.lens.1]; exact this, (hv.acct s this).2 (.inr (.inr (.inl ⟨i, hi⟩)))⟩
  have hfe : X.free.length ≤ 4096 := by rw [hv.lens.1]; exact hv.sz.2.1
  have hlle : o.left.length ≤ 4096 := by
    have h1 := List.Nodup.length_le_of_subset hv.lf.1 (l₂ := List.range X.D.n) fun s hs => List.mem_range.2 (by have := (hlff s hs).1; rw [hv.lens.1] at this; exact this)
    rw [List.length_range] at h1
    have := hv.sz
    omega
  obtain rfl : F = fun j => L j ≠ 0 := funext fun j => propext (hF j)
  have HL := Lib.hid (And.intro (show GIn w L p { X with free := X.free } d b A ca vp vt (some ⟨cc, 0, none⟩) from h) (And.intro hi2 (And.intro hv.lf.1 (And.intro hlff (And.intro (show Rch (fun j => L j ≠ 0) (fun j => L j ≠ 0) w w from Rch.grew (Chg.refl _ _)) hfe)))))
  have H := Lib.hid hrd
  clear h hi2 hrd hv hlff hok hx hF hs2 hno hfe
  go_enter Tryz.func12, Tryz.ntmps12
  go_wp2_with (go_at_call 23; (refine H.out.mono ?_); rintro e w1 ⟨rfl, rfl⟩)
  clear c0 f0 s0 c1 f1 s1' hlen
  go_loopg [72] o.left.length (fun q v wr => ∃ i : Nat, q = o.left.length - i ∧ i ≤ o.left.length ∧ v = .int .i64 i ∧ GIn wr L p { X with free := gvn X.free (dnOf o.left i) } d b A ca vp vt (some ⟨cc, 0, none⟩) ∧ Chg (fun j => L j = 3) w wr)
  case atStart =>
    refine ⟨0, rfl, Nat.zero_le _, rfl, ?_, Chg.refl _ _⟩
    rw [dnOf_zero, gvn_none]
    exact HL.out.1
  case round =>
    obtain ⟨i, rfl, hi, rfl, hG, hC⟩ := hrel
    by_cases hlt : i < o.left.length
    · obtain ⟨s, hs⟩ : ∃ s, o.left[i]? = some s := ⟨_, List.getElem?_eq_getElem hlt⟩
      have hl3 := own_lab HL.out.2.1.lft HL.out.2.1.ll hC (by omega)
      have hl3' : wr.ownsRow 0 3 1 (.slice Al o.left.length cl) o.left.length (nv o.left) := hl3
      obtain ⟨gl, rfl, hgl⟩ := own_block hl3' (by omega)
      have cs : wr.cell? ⟨gl, i, none⟩ = some (.int .i64 s) := by
        have := hl3'.cells (g := gl) rfl i (.int .i64 s) (by simp [nv, hs])
        rwa [Addr.add_lit, Nat.zero_add] at this
      obtain ⟨hfs1, hfs2⟩ := HL.out.2.2.2.1 s (List.mem_of_getElem? hs)
      have hs4 : s < 4096 := by have := HL.out.2.2.2.2.2; omega
      have hgv := pgive_any b s _ A ca wr hG.pol (by show (gvn X.free _).length ≤ 65536; rw [gvn_len]; have := HL.out.2.2.2.2.2; omega)
      have htl := gvn_give X.free (dnOf o.left i) s hfs1 hfs2 (dnOf_new HL.out.2.2.1 hs)
      have hgv2 : Calls Tryz.prog 24 #[.pointer (some ⟨b, 0, none⟩), .int .i64 (s : Int)] wr fun e w' => e = .returned (.int .i64 0) ∧ PIn w' b (gvn X.free (setB (dnOf o.left i) s true)) A ca ∧ Chg (PF b A) wr w' := by
        rw [← show (toL (gvn X.free (dnOf o.left i)) (s : Int) true).1 = gvn X.free (setB (dnOf o.left i) s true) from by rw [htl]]
        refine hgv.mono fun e w' h => ?_
        rw [show (toL ({ X with free := gvn X.free (dnOf o.left i) } : Gp).free (s : Int) true) = (gvn X.free (setB (dnOf o.left i) s true), 0) from htl] at h
        rw [htl]
        exact h
      have HR := Lib.hid (And.intro hG (And.intro hgv2 (And.intro hs hC)))
      obtain ⟨z0, z1, z2⟩ := hG.blk.facts
      clear hG hgv hgv2 htl hfs1 hfs2 hs hC hl3 hl3'
      go_wp2_with (go_at_call 24; (refine HR.out.2.1.mono ?_); rintro e w5 ⟨rfl, h4, h5⟩; have H5 := Lib.hid (And.intro h4 h5); clear h4 h5 z0 z1 z2)
      obtain ⟨hG5, ht5⟩ := HR.out.1.pool H5.out.1 H5.out.2
      go_roundg (o.left.length - (i + 1))
      case measure => omega
      case rel =>
        refine ⟨i + 1, rfl, by omega, by simp, ?_, Chg.trans HR.out.2.2.2 ht5.chg fun j _ e => e⟩
        rw [dnOf_step HR.out.2.2.1]
        exact hG5
    · obtain rfl : i = o.left.length := by omega
      have HD := Lib.hid (And.intro hG hC)
      obtain ⟨z0, z1, z2⟩ := hG.blk.facts
      clear hG hC
      go_wp2
      go_ret
      obtain ⟨L9, hG9, hr9⟩ := HD.out.1.close
      have hr8 : Rch (fun j => L j ≠ 0) (fun j => L j ≠ 0) w wr := ⟨HD.out.2.mono fun j _ e => by omega, fun j hj => .inl hj⟩
      rw [dnOf_all] at hG9

      refine ⟨rfl, fun j => L9 j ≠ 0, ?_, (HL.out.2.2.2.2.1.trans (hr8.trans hr9)).chg, (HL.out.2.2.2.2.1.trans (hr8.trans hr9)).new⟩
      exact hG9.gs

end Go.Proofs.YtjlfnebkibgfmaaGreatDoor

/- The pager, as its pages are: Commit, Abort. -/
namespace Go.Proofs.YtjlfnebkibgfmaaGreatDoor
open Go.RowKit Go.Maps

def Pk.kept : Pk → Pk
  | .new bs => .old bs
  | c => c
/-- The pages behind a commit. -/
def Rp.comm (x : Rp) : Rp := { x with now := x.now.map Pk.kept, was := none, touched := fun _ => false, epoch := if cntN x.touched 64 = 0 then x.epoch else x.epoch + 1 }
/-- The pages behind a change that was given up. -/
def Rp.abort (x : Rp) : Rp := { x with now := x.was.getD [], was := none, touched := fun _ => false }
theorem pk_kept (D : Dk) (fr : Nat → Bool) (s : Nat) (h : fr s = true → 2 ≤ s) : (pk D fr s).kept = pk D (fun _ => false) s := by
  unfold pk
  by_cases h0 : s = 0
  · rw [if_pos h0, if_pos h0]; rfl
  · rw [if_neg h0, if_neg h0]
    by_cases h1 : s = 1
    · rw [if_pos h1, if_pos h1]; rfl
    · rw [if_neg h1, if_neg h1]
      cases fr s <;> rfl
theorem tabs_fit (row need sz : Nat) : ∀ f k0, tabs row need sz f k0 = k0 ∨ fitsN (tabs row need sz f k0) sz = true
  | 0, k0 => .inl rfl
  | f + 1, k0 => by
    unfold tabs
    split
    · rename_i hc
      rcases tabs_fit row need sz f (k0 + 1) with e | e
      · right; rw [e]; exact hc.1
      · exact .inr e
    · exact .inl rfl
theorem tabN_fit {n sz : Nat} (h : 0 < tabN n sz) : fitsN (tabN n sz) sz = true := by
  rcases tabs_fit (sz / 2) (n - 2) sz 64 0 with e | e
  · unfold tabN at h; rw [e] at h; omega
  · exact e
section
variable {D : Dk} {ep : Nat} {pg tb old lf : List Nat} {fe : List Bool} {fr tc : Nat → Bool}
/-- Nothing was touched: nothing is other. -/
theorem Inv.none_touched (h : Inv D ep pg tb old fe fr lf tc) (hn : ∀ k, tc k = false) : tb = old ∧ (∀ s, fr s = false) ∧ lf = [] := by
  have e : tb = old := List.ext_getElem? fun i => by
    by_cases e : tb[i]? = old[i]?
    · exact e
    · have := h.tcd i e; rw [hn] at this; cases this
  subst e
  refine ⟨rfl, fun s => ?_, ?_⟩
  · cases e : fr s with
    | false => rfl
    | true =>
      obtain ⟨-, -, -, h4, i, hi⟩ := h.frr s e
      exact absurd hi (h4 i)
  · cases lf with
    | nil => rfl
    | cons s t =>
      obtain ⟨-, i, h1, h2⟩ := (h.lf.2 s).1 (List.mem_cons_self)
      exact absurd h1 h2
/-- The change is given up. -/
theorem Inv.abort (h : Inv D ep pg tb old fe fr lf tc) : Inv D ep pg old old (gvn fe fr) (fun _ => false) [] (fun _ => false) := by
  refine ⟨h.sz, ⟨by rw [gvn_len]; exact h.lens.1, h.lens.2.1, h.lens.2.2.2, h.lens.2.2.2⟩, h.rO, h.rP, h.jO, h.jP, h.dis, fun s hs => ?_, fun s e => (by cases e), fun i s hi _ => .inr hi, h.jO, ⟨List.nodup_nil, fun s => ⟨fun e => (by cases e), fun e => by obtain ⟨-, i, h1, h2⟩ := e; exact absurd h1 h2⟩⟩, fun i hi => absurd rfl hi, fun k e => (by cases e), ?_, h.cln, h.dur, h.byt, h.epo⟩
  · rw [gvn_at, h.lens.1]
    simp only [hs, decide_true, Bool.true_and, Bool.or_eq_false_iff]
    constructor
    · rintro ⟨e1, e2⟩
      rcases (h.acct s hs).1 e1 with e | e | e | e
      · exact .inl e
      · exact .inr (.inl e)
      · exact .inr (.inr (.inl e))
      · rw [e2] at e; cases e
    · rintro (e | ⟨k, e⟩ | ⟨i, e⟩ | e)
      · refine ⟨(h.acct s hs).2 (.inl e), h.fr0 e⟩
      · refine ⟨(h.acct s hs).2 (.inr (.inl ⟨k, e⟩)), ?_⟩
        cases q : fr s with
        | false => rfl
        | true => exact absurd e ((h.frr s q).2.2.1 k)
      · refine ⟨(h.acct s hs).2 (.inr (.inr (.inl ⟨i, e⟩))), ?_⟩
        cases q : fr s with
        | false => rfl
        | true => exact absurd e ((h.frr s q).2.2.2.1 i)
      · cases e
  · rw [show cntN (fun _ => false) 64 = 0 from cntN_false fun _ _ => rfl]
    exact Nat.zero_le _
end

section
variable (p : Nat) (F : Nat → Prop) (x : Rp) (w : World)
theorem gp_commit (h : GP w p F x) (ho : x.was ≠ none) (hep : x.epoch < 1099511627776) :
    Calls Tryz.prog 12 #[.pointer (some ⟨p, 0, none⟩)] w fun e' w' => e' = .returned (.int .i64 0) ∧ GPTo w w' p F x.comm := by
  obtain ⟨X, h1, h2, rfl⟩ := h
  obtain ⟨o, hx⟩ := Gp.view_op ho
  have hv := h2.inv
  simp only [Gp.old, Gp.fr, Gp.lf, Gp.tc, hx] at hv
  have htc : X.view.touched = o.touched := by show X.tc = _; simp only [Gp.tc, hx]
  have hfr : X.fr = o.fresh := by simp only [Gp.fr, hx]
  have h64 : ∀ k, o.touched k = true → k < 64 := fun k hk => Nat.lt_of_lt_of_le (hv.tc6 k hk) hv.pg64
  have hnow : X.view.now.map Pk.kept = X.table.map (pk X.D fun _ => false) := by
    show (X.table.map (pk X.D X.fr)).map Pk.kept = _
    rw [List.map_map, hfr]
    exact List.map_congr_left fun s _ => pk_kept X.D o.fresh s fun e => (hv.frr s e).1
  by_cases hc : cntN o.touched 64 = 0
  · have hno : ∀ k, o.touched k = false := fun k => by
      cases e : o.touched k with
      | false => rfl
      | true =>
        have h9 : k ∈ keysL o.touched 64 := mem_keysL.2 ⟨h64 k e, e⟩
        have h8 := keysL_len o.touched 64
        rw [hc] at h8
        rw [List.eq_nil_of_length_eq_zero h8] at h9
        cases h9
    obtain ⟨e1, e2, e3⟩ := hv.none_touched hno
    refine (gcommit_same p F X o w h1 h2 hx hno).mono ?_
    rintro e w1 ⟨rfl, h3⟩
    refine ⟨rfl, h3.gp ⟨?_, h2.row, h2.up⟩ ?_⟩
    · have hgv : (gvn X.free fun s => decide (s ∈ o.left)) = X.free := by rw [e3]; simpa using gvn_none X.free
      show Inv X.D X.epoch X.pages X.table X.table (gvn X.free fun s => decide (s ∈ o.left)) (fun _ => false) [] (fun _ => false)
      rw [hgv]
      have h9 := hv
      rw [← e1, e3, show o.fresh = fun _ => false from funext e2, show o.touched = fun _ => false from funext hno] at h9
      exact h9
    · show Gp.view (X.done o) = Rp.comm X.view
      unfold Rp.comm
      rw [hnow, htc, if_pos hc]
      simp [Gp.view, Gp.done, Gp.fr, Gp.tc]
  · have hne : 0 < (keysL o.touched 64).length := by rw [keysL_len]; omega
    have hpl : 0 < X.pages.length := by
      obtain ⟨k, hk⟩ := List.exists_mem_of_length_pos hne
      have := hv.tc6 k (mem_keysL.1 hk).2
      omega
    have hfit : fitsN X.pages.length X.D.sz = true := by
      rw [hv.lens.2.1] at hpl ⊢
      exact tabN_fit hpl
    refine (gcommit_touched p F X o w h1 h2 hx hne hep hfit).mono ?_
    rintro e w1 ⟨rfl, S, hT, h3⟩
    have hI := TInv.commit hv hT hep hfit
    refine ⟨rfl, h3.gp ⟨hI, ?_, ?_⟩ ?_⟩
    · show X.row = S.D.sz / 2
      rw [hT.n.2.1]; exact h2.row
    · exact ⟨h2.up.1, by show S.D.down = false; rw [hT.n.2.2.1]; exact h2.up.2.1, by show S.D.armed = false; rw [hT.n.2.2.2]; exact h2.up.2.2⟩
    · show Gp.view (X.comm S) = Rp.comm X.view
      unfold Rp.comm
      rw [hnow, htc, if_neg hc]
      have e1 : X.table.map (pk (S.D.rooted (X.epoch + 1) S.pg) fun _ => false) = X.table.map (pk X.D fun _ => false) := List.map_congr_left fun s hs => by
        obtain ⟨i, hi⟩ := List.mem_iff_getElem?.1 hs
        unfold pk
        by_cases h0 : s = 0
        · rw [if_pos h0, if_pos h0]
        · by_cases h1 : s = 1
          · rw [if_neg h0, if_pos h1, if_neg h0, if_pos h1]
          · have hm2 := Nat.mod_lt (X.epoch + 1) (show 0 < 2 by omega)
            rw [if_neg h0, if_neg h1, if_neg h0, if_neg h1, Dk.rooted_rd, if_neg (show ¬ s = (X.epoch + 1) % 2 by omega)]
            rw [hT.rd s fun e => by
              rcases hv.cur i s hi (by omega) with e2 | e2
              · exact e2
              · exact absurd e2 ((hT.frn s e).2.2.2 i)]
      have hn := hT.n
      unfold Gp.view Gp.comm
      simp only [Gp.fr, Gp.tc, Option.map_none]
      rw [e1]
      show Rp.mk S.D.n S.D.sz _ _ _ _ = Rp.mk X.D.n X.D.sz _ _ _ _
      rw [hn.1, hn.2.1]
theorem gp_abort (h : GP w p F x) (ho : x.was ≠ none) :
    Calls Tryz.prog 9 #[.pointer (some ⟨p, 0, none⟩)] w fun e' w' => e' = .returned (.int .i64 0) ∧ GPTo w w' p F x.abort := by
  obtain ⟨X, h1, h2, rfl⟩ := h
  obtain ⟨o, hx⟩ := Gp.view_op ho
  have hv := h2.inv
  simp only [Gp.old, Gp.fr, Gp.lf, Gp.tc, hx] at hv
  refine (gabort_ok p F X o w h1 h2 hx).mono ?_
  rintro e w1 ⟨rfl, h3⟩
  refine ⟨rfl, h3.gp ⟨hv.abort, h2.row, h2.up⟩ ?_⟩
  show Gp.view (X.abort o) = Rp.abort X.view
  unfold Rp.abort
  rw [Gp.view_was hx]
  simp [Gp.view, Gp.abort, Gp.fr, Gp.tc]
end

end Go.Proofs.YtjlfnebkibgfmaaGreatDoor

/- The pager, as its pages are: Room; what is free in a new one. -/
namespace Go.Proofs.YtjlfnebkibgfmaaGreatDoor
open Go.RowKit Go.Maps

theorem gp_room (p : Nat) (F : Nat → Prop) (x : Rp) (w : World) (h : GP w p F x) :
    Calls Tryz.prog 6 #[.pointer (some ⟨p, 0, none⟩)] w fun e' w' => e' = .returned (.int .i64 x.room) ∧ Grew w w' := by
  obtain ⟨X, h1, h2, rfl⟩ := h
  rw [← h2.room]
  exact groom_any p F X w h1 (by rw [h2.inv.lens.1]; have := h2.inv.sz; omega)

theorem rep_no_used (m row k : Nat) : partUsed row (List.replicate m Pk.no) k = false := by
  unfold partUsed
  rw [List.any_eq_false]
  intro i _
  have : (List.replicate m Pk.no).getD (k * row + i) .no = .no := by
    rw [List.getD_eq_getElem?_getD, List.getElem?_replicate]
    split <;> rfl
  rw [this]
  simp [Pk.used]
theorem rep_no_tabs (n sz m : Nat) : tabsUsed n sz (List.replicate m Pk.no) = 0 := by
  unfold tabsUsed
  refine List.countP_eq_zero.2 fun k _ => ?_
  rw [rep_no_used]
  simp
theorem rep_no_count (m : Nat) (f : Pk → Bool) (h : f .no = false) : (List.replicate m Pk.no).countP f = 0 := by
  rw [List.countP_replicate, h]; rfl
/-- What is free in a new pager, in a change or not. -/
theorem fresh_free (n sz : Nat) : (Rp.fresh n sz).free = (n : Int) - 2 ∧ (Rp.fresh n sz).begun.free = (n : Int) - 2 ∧ (Rp.fresh n sz).room = (n : Int) - 2 ∧ (Rp.fresh n sz).begun.room = (n : Int) - 2 := by
  have h1 : (Rp.fresh n sz).free = (n : Int) - 2 := by
    show (n : Int) - 2 - (tabsUsed n sz (List.replicate (capN n sz) Pk.no) : Nat) - ((List.replicate (capN n sz) Pk.no).countP Pk.isOld : Nat) - ((List.replicate (capN n sz) Pk.no).countP Pk.isNew : Nat) = _
    rw [rep_no_tabs, rep_no_count _ _ rfl, rep_no_count _ _ rfl]
    omega
  have h2 : (Rp.fresh n sz).begun.free = (n : Int) - 2 := h1
  have h3 : cntN (fun _ => false) 64 = 0 := cntN_false fun _ _ => rfl
  refine ⟨h1, h2, ?_, ?_⟩
  · show (Rp.fresh n sz).free - (cntN (fun _ => false) 64 : Nat) = _
    rw [h1, h3]; simp
  · show (Rp.fresh n sz).begun.free - (cntN (fun _ => false) 64 : Nat) = _
    rw [h2, h3]; simp

end Go.Proofs.YtjlfnebkibgfmaaGreatDoor

/- ChainFull, walked. -/
namespace Go.Proofs.YtjlfnebkibgfmaaGreatDoor
open Go.RowKit Go.Maps

/-- string(b) of bytes that are read. -/
theorem conv_sl {w : World} {c : Nat} {bs : List Int} {A : Option Addr} (h : Sl w 1 A bs.length (bv bs)) (h0 : 0 < bs.length) : (convert 22 9 (.slice A bs.length c)).run Tryz.prog w = .ok (.string (strOfNums bs)) w := by
  obtain ⟨b, off, rfl, hb, hx⟩ := h.2 h0
  refine run_convert_bytes_arg w 22 5 Tryz.underlying22 (by kernel_rfl) b off bs.length c bs rfl (fun i hi => ?_) 9 (by kernel_rfl)
  exact hx i (.int .u8 (bs.getD i 0)) (by simp [bv, hi])
theorem conv_own {w : World} {base n c : Nat} {bs : List Int} {A : Option Addr} (h : w.ownsRow base 5 1 (.slice A n c) n (bv bs)) (h0 : 0 < n) : (convert 22 9 (.slice A n c)).run Tryz.prog w = .ok (.string (strOfNums bs)) w := by
  have hl : bs.length = n := by have := h.1; rwa [bv_len, Nat.mul_one] at this
  subst hl
  exact conv_sl (Sl.of_own h) h0
/-- How many table pages, and pages, there are on small disks. -/
theorem small_disks : ∀ n, 8 ≤ n → n ≤ 40 → tabN n 64 ≤ 2 ∧ capN n 64 = n - 2 := by
  have h : (List.range 41).all (fun n => decide (n < 8) || (decide (tabN n 64 ≤ 2) && decide (capN n 64 = n - 2))) = true := by kernel_rfl
  intro n h1 h2
  have := List.all_eq_true.1 h n (List.mem_range.2 (by omega))
  simp only [Bool.or_eq_true, Bool.and_eq_true, decide_eq_true_eq] at this
  rcases this with e | e
  · omega
  · exact e

theorem like_abort {n : Nat} {y : Rp} (h : (Rp.open0 n).like y) : y.abort = Rp.fresh n 64 := by
  unfold Rp.abort
  have h1 := h.n
  have h2 := h.sz
  have h3 := h.was
  have h4 := h.epoch
  obtain ⟨a, b, c, d, e, f⟩ := y
  simp only [Rp.open0, Rp.begun, Rp.fresh] at h1 h2 h3 h4
  subst h1 h2 h3 h4
  rfl

set_option maxRecDepth 100000 in
set_option maxHeartbeats 3200000 in
theorem full_walk (w : World) (hT : TabAt 0 tab w) (n : Int) (hn : -9223372036854775808 ≤ n ∧ n ≤ 9223372036854775807) (A : Option Addr) (c : Nat) (bs : List Int) (hm : bs.length ≤ maxLen) (hs : Sl w 1 A bs.length (bs.map (Value.int .u8))) (ok : (∀ q ∈ bs, 0 ≤ q ∧ q ≤ 255) ∧ bs.length ≤ c) :
    Calls Tryz.prog 3 #[.int .i64 n, .slice A bs.length c] w fun e w' => e = .returned (.bool true) ∧ Grew w w' := by
  have HA := Lib.hid (fun u (hg : Grew w u) => cawake_any u (tab_chg hT hg id))
  have H := Lib.hid (And.intro hT (And.intro (show Sl w 1 A bs.length (bv bs) from hs) ok))
  obtain ⟨n1, n2⟩ := hn
  have hml : bs.length ≤ 9223372036854775807 := by simp only [maxLen] at hm; omega
  clear hT hs ok hm
  by_cases hg : n < 8 ∨ 40 < n ∨ bs.length < 1 ∨ 3000 < bs.length
  · have t0 : (decide (n < 8) = true) ∨ (decide (n < 8) = false ∧ decide (40 < n) = true) ∨ (decide (n < 8) = false ∧ decide (40 < n) = false ∧ decide ((bs.length : Int) < 1) = true) ∨ (decide (n < 8) = false ∧ decide (40 < n) = false ∧ decide ((bs.length : Int) < 1) = false ∧ decide ((3000 : Int) < (bs.length : Int)) = true) := by
      by_cases a : n < 8
      · exact .inl (decide_eq_true a)
      · by_cases b : 40 < n
        · exact .inr (.inl ⟨decide_eq_false a, decide_eq_true b⟩)
        · by_cases d : bs.length < 1
          · exact .inr (.inr (.inl ⟨decide_eq_false a, decide_eq_false b, decide_eq_true (by omega)⟩))
          · exact .inr (.inr (.inr ⟨decide_eq_false a, decide_eq_false b, decide_eq_false (by omega), decide_eq_true (by omega)⟩))
    clear hg
    rcases t0 with t1 | ⟨t1, t2⟩ | ⟨t1, t2, t3⟩ | ⟨t1, t2, t3, t4⟩
    all_goals
      go_enter Tryz.func3, Tryz.ntmps3
      go_wp2_with (go_at_call 4; (refine (HA.out _ (Chg.refl _ _)).mono ?_); rintro e w2 ⟨rfl, hg2⟩; have H2 := Lib.hid hg2; clear hg2)
      go_ret
      exact ⟨rfl, H2.out⟩
  · obtain ⟨N, rfl⟩ := Int.eq_ofNat_of_zero_le (show 0 ≤ n by omega)
    have t1 : decide ((N : Int) < 8) = false := decide_eq_false (by omega)
    have t2 : decide ((40 : Int) < (N : Int)) = false := decide_eq_false (by omega)
    have t3 : decide ((bs.length : Int) < 1) = false := decide_eq_false (by omega)
    have t4 : decide ((3000 : Int) < (bs.length : Int)) = false := decide_eq_false (by omega)
    have hN8 : 8 ≤ N := by omega
    have hN40 : N ≤ 40 := by omega
    have hl1 : 1 ≤ bs.length := by omega
    have hl3 : bs.length ≤ 3000 := by omega
    obtain ⟨gA, oA, rfl, hgA, -⟩ := H.out.2.1.2 (by omega)
    obtain ⟨K, hK⟩ : ∃ K, partsN bs.length 59 = K := ⟨_, rfl⟩
    have hK1 : 1 ≤ K := by rw [← hK]; exact Nat.succ_le_succ (Nat.zero_le _)
    have hK2 : K ≤ 3000 := by rw [← hK]; unfold partsN; have := Nat.div_le_self (bs.length - 1) 59; omega
    have HKk := Lib.hid hK
    clear hg hK n1 n2 hml
    go_enter Tryz.func3, Tryz.ntmps3
    go_wp2_with fail
    refine (fresh_any N _ H.out.1 hN8 (by omega)).mono ?_
    rintro e w1 ⟨p, F, rfl, hp, hg1, hn1⟩
    have hrm := gp_room p F _ w1 hp
    rw [show (Rp.open0 N).room = (N : Int) - 2 from (fresh_free N 64).2.2.2] at hrm
    have H1 := Lib.hid (And.intro hp (And.intro hg1 (And.intro hn1 hrm)))
    clear hp hg1 hn1 hrm
    go_wp2_with fail
    refine H1.out.2.2.2.mono ?_
    rintro e w2 ⟨rfl, hg2⟩
    have hput := cput_any p F (Rp.open0 N) bs gA oA c w2 (H1.out.1.grew hg2) (by simp [Rp.open0, Rp.begun]) hl1 (by omega) H.out.2.2.1 H.out.2.2.2 ((H.out.2.1.grew H1.out.2.1).grew hg2) (fun e => by have := H1.out.2.2.1 gA e; omega)
    have H2 := Lib.hid (And.intro hput hg2)
    clear hput hg2
    go_wp2_with fail
    refine H2.out.1.mono ?_
    rintro e w3 (⟨i0, l, y, rfl, hi0, hto, hrel⟩ | ⟨y, rfl, hto, hlk, hne⟩)
    · obtain ⟨F3, hp3, hc3, hn3⟩ := hto
      have hGw : Grew w w3 := chg_new (Grew.trans H1.out.2.1 H2.out.2) hc3 H1.out.2.2.1
      have hn3w : ∀ j, F3 j → w.heap.size ≤ j := fun j hj => (hn3 j hj).elim (H1.out.2.2.1 j) fun e => by have h8 := H1.out.2.1.size; have h9 := H2.out.2.size; omega
      have hs3 : Sl w3 1 (some ⟨gA, oA, none⟩) bs.length (bv bs) := H.out.2.1.grew hGw
      have hcv := conv_sl (c := c) hs3 (by omega)
      have hpa := xparts_any bs 59 w3 hl1 (by omega) (by omega) (by omega)
      rw [HKk.out] at hpa
      have hlk : l.length = K := by rw [hrel.stands.len, hrel.like.sz]; exact HKk.out
      have hKN : K ≤ N - 2 := by
        have h5 := hrel.used
        have h6 := List.countP_le_length (p := Pk.used) (l := y.now)
        have h7 := hrel.like.len
        have h8 : (Rp.open0 N).now.length = N - 2 := by have := (small_disks N hN8 hN40).2; simp [Rp.open0, Rp.begun, Rp.fresh, this]
        omega
      have t5 : decide ((K : Int) ≤ (N : Int) - 2) = true := decide_eq_true (by omega)
      have H3 := Lib.hid (And.intro hp3 (And.intro hGw (And.intro hn3w (And.intro hs3 (And.intro hpa (And.intro hrel hi0))))))
      clear hp3 hc3 hn3 hGw hn3w hs3 hpa hrel hi0 hlk
      go_wp2_with fail
      refine H3.out.2.2.2.2.1.mono ?_
      clear hcv
      rintro e w4 ⟨A4, c4, rfl, ho4, hg4⟩
      have hgt := cget_stands p F3 y w4 l bs i0 (H3.out.1.grew hg4) H3.out.2.2.2.2.2.1.stands hl1 (by omega) H3.out.2.2.2.2.2.2
      have H4 := Lib.hid (And.intro hgt (Grew.trans H3.out.2.1 hg4))
      clear hgt ho4 hg4
      go_wp2_with fail
      refine H4.out.1.mono ?_
      rintro e w5 ⟨hp5, hc5, A5, c5, rfl, ho5⟩
      have hG5 : Grew w w5 := chg_new H4.out.2 hc5 H3.out.2.2.1
      have hcv1 := conv_own ho5 (by omega)
      have hcv2 := conv_sl (c := c) (H.out.2.1.grew hG5) (by omega)
      have hcm := gp_commit p F3 y w5 hp5 (by rw [H3.out.2.2.2.2.2.1.like.was]; simp [Rp.open0, Rp.begun]) (by rw [H3.out.2.2.2.2.2.1.like.epoch]; simp [Rp.open0, Rp.begun, Rp.fresh])
      have H5 := Lib.hid (And.intro hcm hG5)
      clear hp5 hc5 ho5 hG5 hcm
      go_wp2_with fail
      refine H5.out.1.mono ?_
      rintro e w6 ⟨rfl, F6, hp6, hc6, hn6⟩
      have H6 := Lib.hid (show Grew w w6 from chg_new H5.out.2 hc6 H3.out.2.2.1)
      clear hp6 hc6 hn6 hcv1 hcv2
      go_wp2_with (go_at_call 4; (refine (HA.out _ H6.out).mono ?_); rintro e w7 ⟨rfl, hg7⟩; have H7 := Lib.hid hg7; clear hg7)
      go_ret
      exact ⟨rfl, Grew.trans H6.out H7.out⟩
    · obtain ⟨F3, hp3, hc3, hn3⟩ := hto
      have hGw : Grew w w3 := chg_new (Grew.trans H1.out.2.1 H2.out.2) hc3 H1.out.2.2.1
      have hn3w : ∀ j, F3 j → w.heap.size ≤ j := fun j hj => (hn3 j hj).elim (H1.out.2.2.1 j) fun e => by have h8 := H1.out.2.1.size; have h9 := H2.out.2.size; omega
      have hs3 : Sl w3 1 (some ⟨gA, oA, none⟩) bs.length (bv bs) := H.out.2.1.grew hGw
      have hcv := conv_sl (c := c) hs3 (by omega)
      have hpa := xparts_any bs 59 w3 hl1 (by omega) (by omega) (by omega)
      rw [HKk.out] at hpa
      have hKN : (N : Int) - 2 < (K : Int) + 2 := by
        have h5 : (Rp.open0 N).slack = (N : Int) - 2 - tabN N 64 := by
          unfold Rp.slack
          rw [show (Rp.open0 N).free = (N : Int) - 2 from (fresh_free N 64).2.1]
          rfl
        have h6 := (small_disks N hN8 hN40)
        have h8 : (Rp.open0 N).now.length = N - 2 := by simp [Rp.open0, Rp.begun, Rp.fresh, h6.2]
        have h9 : (Rp.open0 N).now.countP Pk.used = 0 := rep_no_count _ _ rfl
        apply Int.lt_of_not_ge
        intro hle
        refine hne ⟨?_, ?_⟩
        · rw [h5, show (Rp.open0 N).sz - 5 = 59 from rfl, HKk.out]; omega
        · rw [h8, h9, show (Rp.open0 N).sz - 5 = 59 from rfl, HKk.out]; omega
      have t5 : decide ((N : Int) - 2 < (K : Int) + 2) = true := decide_eq_true hKN
      have H3 := Lib.hid (And.intro hp3 (And.intro hGw (And.intro hn3w (And.intro hpa hlk))))
      clear hp3 hc3 hn3 hGw hn3w hs3 hpa hlk hne hKN
      go_wp2_with fail
      refine H3.out.2.2.2.1.mono ?_
      clear hcv
      rintro e w4 ⟨A4, c4, rfl, ho4, hg4⟩
      have hab := gp_abort p F3 y w4 (H3.out.1.grew hg4) (by rw [H3.out.2.2.2.2.was]; simp [Rp.open0, Rp.begun])
      rw [like_abort H3.out.2.2.2.2] at hab
      have H4 := Lib.hid (And.intro hab (Grew.trans H3.out.2.1 hg4))
      clear hab ho4 hg4
      go_wp2_with fail
      refine H4.out.1.mono ?_
      rintro e w5 ⟨rfl, F5, hp5, hc5, hn5⟩
      have hG5 : Grew w w5 := chg_new H4.out.2 hc5 H3.out.2.2.1
      have hus := gp_used p F5 _ w5 hp5
      rw [show (Rp.fresh N 64).now.countP Pk.used = 0 from rep_no_count _ _ rfl] at hus
      have H5 := Lib.hid (And.intro hus (And.intro hG5 hp5))
      clear hp5 hc5 hn5 hG5 hus
      go_wp2_with fail
      refine H5.out.1.mono ?_
      rintro e w6 ⟨rfl, hg6⟩
      have hrm := gp_room p F5 _ w6 (H5.out.2.2.grew hg6)
      rw [(fresh_free N 64).2.2.1] at hrm
      have H6 := Lib.hid (And.intro hrm (Grew.trans H5.out.2.1 hg6))
      clear hrm hg6
      go_wp2_with fail
      refine H6.out.1.mono ?_
      rintro e w7 ⟨rfl, hg7⟩
      have H7 := Lib.hid (Grew.trans H6.out.2 hg7)
      clear hg7
      go_wp2_with (go_at_call 4; (refine (HA.out _ H7.out).mono ?_); rintro e w8 ⟨rfl, hg8⟩; have H8 := Lib.hid hg8; clear hg8)
      go_ret
      exact ⟨rfl, Grew.trans H7.out H8.out⟩

end Go.Proofs.YtjlfnebkibgfmaaGreatDoor

/- The laws: the table that the rows list, in a walk's words; a world that meets it. -/
namespace Go.Proofs.YtjlfnebkibgfmaaGreatDoor
open Go.RowKit

def tabI : List Int := tab.map Int.ofNat
/-- The listed variable's name. -/
def laidName : String := Rows.chainFullRow.named.headD (toString 0)
theorem laid_is {H : Type} : (Rows.laid_math_bits_deBruijn64tab : DataW H) = Lib.tabData .u8 tabI := rfl
theorem tab_of_laid {W : World} (h : laidMetH Tryz.prog Rows.chainFullRow.laid W) : TabAt 0 tab W := by
  have h' : laidMet Tryz.prog [(laidName, Lib.tabData .u8 tabI)] W := h
  have hg : Tryz.prog.globalNamed laidName = some 0 := by kernel_rfl
  have ht := Lib.tabIs_of_head (t := 134) (e := 5) (n := 64) hg (by kernel_rfl) Tryz.underlying134 Tryz.underlying5 (by kernel_rfl) (by kernel_rfl) h'
  intro j hj
  have := ht.cell hg j (by simpa [tabI] using hj)
  rw [this]
  congr 2
  unfold tabI
  rw [List.getD_eq_getElem?_getD, List.getElem?_map, List.getD_eq_getElem?_getD]
  cases tab[j]? <;> rfl

noncomputable def laidWorld (os : Os) : World :=
  { World.holding Tryz.prog os ⟨#[], #[], []⟩ with heap := (World.holding Tryz.prog os ⟨#[], #[], []⟩).heap.modify 0 fun
      | .cells _ t frozen => .cells (tabI.map fun z => Value.int .u8 z).toArray t frozen
      | o => o }
theorem laidWorld_met (os : Os) (args : Array Value) : laidMetH Tryz.prog Rows.chainFullRow.laid ((laidWorld os).forCall (fun _ _ => 0) ⟨#[], args, []⟩).memory :=
  laidMetH_of_parts (laidMet_of_run' 8 (by kernel_rfl) (by kernel_rfl)) (by kernel_rfl)

end Go.Proofs.YtjlfnebkibgfmaaGreatDoor

/- What a law's arguments are, opened: a slice of whatever element, record by record. No program stands in this text. -/
namespace Go.Proofs.YtjlfnebkibgfmaaGreatDoor
open Go.ChangeShapes Go.WideShapes Go.ChangeAt Go.RowKit Go.Deep

theorem choose_list {α : Type} (P : Nat → α → Prop) : ∀ (n : Nat), (∀ i, i < n → ∃ x, P i x) → ∃ l : List α, l.length = n ∧ ∀ i x, l[i]? = some x → P i x
  | 0, _ => ⟨[], rfl, fun i x h => by simp at h⟩
  | n + 1, h => by
    obtain ⟨l, hl, hp⟩ := choose_list P n (fun i hi => h i (by omega))
    obtain ⟨x, hx⟩ := h n (by omega)
    refine ⟨l ++ [x], by simp [hl], fun i y hy => ?_⟩
    by_cases hi : i < l.length
    · rw [List.getElem?_append_left hi] at hy
      exact hp i y hy
    · rw [List.getElem?_append_right (by omega)] at hy
      have h0 : i - l.length = 0 := by
        rcases Nat.eq_zero_or_pos (i - l.length) with h0 | h0
        · exact h0
        · rw [List.getElem?_eq_none (by simp; omega)] at hy; cases hy
      rw [h0] at hy
      simp at hy
      subst hy
      obtain rfl : i = n := by omega
      exact hx

theorem wf_bounds {n : Int} (h : (Lit.int .i64 n).wf = true) : -9223372036854775808 ≤ n ∧ n ≤ 9223372036854775807 := by
  simpa [Lit.wf, IntKind.min, IntKind.max, IntKind.signed, IntKind.bits] using h

section
variable {H : Type} {enc : TypeId × Value → H} {P : Program} {w : World} {base : Nat} {spare : Nat → Bool} {held : Bool}

/-- A slice whose elements have s cells each: for each element its cells, and that they read. -/
theorem open_elems {t e : TypeId} {fuel s len cap : Nat} {A : Option Addr} {x : DataW H × List MemPlace} (ht : P.underlying t = some (.slice e)) (hC : P.cellsOf e = s) (hs : 0 < s)
    (h : DataW.trod enc P w base spare held fuel t [.slice A len cap] = some x) :
    len ≤ maxLen ∧ (len = 0 ∨ ∃ b off, A = some ⟨b, off, none⟩ ∧ b < w.heap.size ∧ ∀ i, i < len → ∃ (cs : List Value) (n : Nat) (y : DataW H × List MemPlace), cs.length = s ∧ (∀ j, j < s → w.cell? ⟨b, off + (i * s + j), none⟩ = cs[j]?) ∧ DataW.trod enc P w base spare held n e cs = some y) := by
  rcases open_slice ht h with ⟨hcs, _⟩ | ⟨a, len', cap', m, n, D, Pl, hcs, hb, hl, hm, hmm, hx, hi⟩
  · simp at hcs
    obtain ⟨rfl, rfl, rfl⟩ := hcs
    exact ⟨Nat.zero_le _, .inl rfl⟩
  · simp at hcs
    obtain ⟨rfl, rfl, rfl⟩ := hcs
    refine ⟨Nat.le_trans hl hm, ?_⟩
    rcases Nat.eq_zero_or_pos len with h0 | h0
    · exact .inl h0
    right
    have hlm : len ≤ m := by rw [hmm]; split <;> omega
    obtain ⟨b, off, spot⟩ := a
    have cellAt : ∀ i, i < len → ∃ cs' y, cs'.length = s ∧ (∀ j, j < s → w.cell? (Addr.add ⟨b, off, spot⟩ (i * s + j)) = cs'[j]?) ∧ DataW.trod enc P w base spare held n e cs' = some y := by
      intro i hil
      obtain ⟨cs', hc, ht'⟩ := hi i (by omega)
      rw [hC] at hc
      obtain ⟨_, hcl, hat⟩ := World.cells?_some hc
      refine ⟨cs', _, hcl, fun j hj => ?_, ht'⟩
      rw [← hat j hj]
      congr 1
      unfold Addr.add
      by_cases h1 : i * s = 0 <;> by_cases h2 : j = 0 <;> simp [h1, h2, Nat.add_assoc]
    have hspot : spot = none := by
      obtain ⟨cs', y, hcl, hat, _⟩ := cellAt 0 h0
      have := hat 0 hs
      have h0' : cs'[0]? = some (cs'[0]'(by omega)) := List.getElem?_eq_getElem (by omega)
      rw [h0'] at this
      simpa [Addr.add] using World.cell?_spot this
    subst hspot
    refine ⟨b, off, rfl, ?_, fun i hil => ?_⟩
    · obtain ⟨cs', y, hcl, hat, _⟩ := cellAt 0 h0
      have := hat 0 hs
      have h0' : cs'[0]? = some (cs'[0]'(by omega)) := List.getElem?_eq_getElem (by omega)
      rw [h0'] at this
      simpa [Addr.add] using World.block_lt_of_cell? w _ this
    · obtain ⟨cs', y, hcl, hat, ht'⟩ := cellAt i hil
      refine ⟨cs', n, y, hcl, fun j hj => ?_, ht'⟩
      have := hat j hj
      rw [Addr.add_lit] at this
      exact this
end

end Go.Proofs.YtjlfnebkibgfmaaGreatDoor

/- A law's argument that is a slice of bytes. No program stands in this text. -/
namespace Go.Proofs.YtjlfnebkibgfmaaGreatDoor
open Go.ChangeShapes Go.WideShapes Go.ChangeAt Go.RowKit Go.Deep

theorem wf_byte {n : Int} (h : (Lit.int .u8 n).wf = true) : 0 ≤ n ∧ n ≤ 255 := by
  simpa [Lit.wf, IntKind.min, IntKind.max, IntKind.signed, IntKind.bits] using h

theorem bytes_opened {H : Type} {enc : TypeId × Value → H} {P : Program} {w : World} {base : Nat} {spare : Nat → Bool} {held : Bool} {t e : TypeId} {fuel len cap : Nat} {A : Option Addr} {x : DataW H × List MemPlace}
    (ht : P.underlying t = some (.slice e)) (he : P.underlying e = some (.int .u8)) (hC : P.cellsOf e = 1) (h : DataW.trod enc P w base spare held fuel t [.slice A len cap] = some x) :
    ∃ l : List Int, len = l.length ∧ len ≤ maxLen ∧ Sl w 1 A l.length (l.map (Value.int .u8)) ∧ ∀ n ∈ l, 0 ≤ n ∧ n ≤ 255 := by
  obtain ⟨hm, hc⟩ := open_elems ht (s := 1) hC (by omega) h
  rcases hc with rfl | ⟨b, off, rfl, hb, hi⟩
  · exact ⟨[], rfl, hm, Sl.nil _ _ _, fun r hr => by cases hr⟩
  · obtain ⟨l, hl, hp⟩ := choose_list (fun i (r : Int) => (0 ≤ r ∧ r ≤ 255) ∧ w.cell? ⟨b, off + i, none⟩ = some (.int .u8 r)) len (fun i hil => by
      obtain ⟨cs, n, y, hcl, hat, hT⟩ := hi i hil
      match cs, hcl with
      | [c], _ =>
        obtain ⟨r, e1, -, w1⟩ := DataW.trod_int he hT
        simp at e1
        subst e1
        have := hat 0 (by omega)
        exact ⟨r, wf_byte w1, by simpa using this⟩)
    refine ⟨l, hl.symm, hm, ⟨by simp, fun _ => ⟨b, off, rfl, hb, fun j u hu => ?_⟩⟩, fun r hr => ?_⟩
    · rw [List.getElem?_map] at hu
      cases hj : l[j]? with
      | none => rw [hj] at hu; cases hu
      | some r => rw [hj] at hu; simp at hu; subst hu; exact (hp j r hj).2
    · obtain ⟨i, hi, rfl⟩ := List.getElem_of_mem hr
      exact (hp i _ (List.getElem?_eq_getElem hi)).1

end Go.Proofs.YtjlfnebkibgfmaaGreatDoor

/- A law's argument that is a slice of bytes, with its capacity. No program stands in this text. -/
namespace Go.Proofs.YtjlfnebkibgfmaaGreatDoor
open Go.ChangeShapes Go.WideShapes Go.ChangeAt Go.RowKit Go.Deep

theorem sbytes_opened {H : Type} {enc : TypeId × Value → H} {P : Program} {w : World} {base : Nat} {spare : Nat → Bool} {held : Bool} {t e : TypeId} {fuel len cap : Nat} {A : Option Addr} {x : DataW H × List MemPlace}
    (ht : P.underlying t = some (.slice e)) (he : P.underlying e = some (.int .u8)) (hC : P.cellsOf e = 1) (h : DataW.trod enc P w base spare held fuel t [.slice A len cap] = some x) :
    ∃ l : List Int, len = l.length ∧ len ≤ maxLen ∧ Sl w 1 A l.length (l.map (Value.int .u8)) ∧ ((∀ n ∈ l, 0 ≤ n ∧ n ≤ 255) ∧ l.length ≤ cap) := by
  obtain ⟨l, rfl, h1, h2, h3⟩ := bytes_opened ht he hC h
  refine ⟨l, rfl, h1, h2, h3, ?_⟩
  rcases open_slice ht h with ⟨hcs, _⟩ | ⟨a, len, cap, m, n, D, Pl, hcs, hb, hl, hm, _⟩
  · simp at hcs
    rw [hcs.2.1]
    exact Nat.zero_le _
  · simp at hcs
    obtain ⟨-, rfl, rfl⟩ := hcs
    exact hl

end Go.Proofs.YtjlfnebkibgfmaaGreatDoor

/- A law's argument that is a slice of int. No program stands in this text. -/
namespace Go.Proofs.YtjlfnebkibgfmaaGreatDoor
open Go.ChangeShapes Go.WideShapes Go.ChangeAt Go.RowKit Go.Deep

theorem ints_opened {H : Type} {enc : TypeId × Value → H} {P : Program} {w : World} {base : Nat} {spare : Nat → Bool} {held : Bool} {t e : TypeId} {fuel len cap : Nat} {A : Option Addr} {x : DataW H × List MemPlace}
    (ht : P.underlying t = some (.slice e)) (he : P.underlying e = some (.int .i64)) (hC : P.cellsOf e = 1) (h : DataW.trod enc P w base spare held fuel t [.slice A len cap] = some x) :
    ∃ l : List Int, len = l.length ∧ len ≤ maxLen ∧ Sl w 1 A l.length (l.map (Value.int .i64)) ∧ ∀ n ∈ l, -9223372036854775808 ≤ n ∧ n ≤ 9223372036854775807 := by
  obtain ⟨hm, hc⟩ := open_elems ht (s := 1) hC (by omega) h
  rcases hc with rfl | ⟨b, off, rfl, hb, hi⟩
  · exact ⟨[], rfl, hm, Sl.nil _ _ _, fun r hr => by cases hr⟩
  · obtain ⟨l, hl, hp⟩ := choose_list (fun i (r : Int) => (-9223372036854775808 ≤ r ∧ r ≤ 9223372036854775807) ∧ w.cell? ⟨b, off + i, none⟩ = some (.int .i64 r)) len (fun i hil => by
      obtain ⟨cs, n, y, hcl, hat, hT⟩ := hi i hil
      match cs, hcl with
      | [c], _ =>
        obtain ⟨r, e1, -, w1⟩ := DataW.trod_int he hT
        simp at e1
        subst e1
        have := hat 0 (by omega)
        exact ⟨r, wf_bounds w1, by simpa using this⟩)
    refine ⟨l, hl.symm, hm, ⟨by simp, fun _ => ⟨b, off, rfl, hb, fun j u hu => ?_⟩⟩, fun r hr => ?_⟩
    · rw [List.getElem?_map] at hu
      cases hj : l[j]? with
      | none => rw [hj] at hu; cases hu
      | some r => rw [hj] at hu; simp at hu; subst hu; exact (hp j r hj).2
    · obtain ⟨i, hi, rfl⟩ := List.getElem_of_mem hr
      exact (hp i _ (List.getElem?_eq_getElem hi)).1

end Go.Proofs.YtjlfnebkibgfmaaGreatDoor

namespace Go.Proofs.YtjlfnebkibgfmaaGreatDoor
open Go.ChangeShapes Go.WideShapes Go.ChangeAt Go.RowKit
set_option linter.unusedVariables false

namespace lawChainFull
theorem own : ownKnob Tryz.prog.godebug = none := by kernel_rfl
theorem laidOut : laidOutB Tryz.prog = true := by kernel_rfl
set_option maxRecDepth 100000 in
theorem lifted (os : Os) (started : os.Started) (H : Type) (enc : TypeId × Value → H) :
    ReturnsInHanded {} Tryz.checked os 3 .any (fun w args => (Rows.chainFullSpec.pre enc Tryz.prog Tryz.f3 [] false w args ∧ laidMetH Tryz.prog Rows.chainFullRow.laid w) ∧ sizedMet enc Tryz.prog Tryz.f3 (OpenSpec.ofChange Rows.chainFullSpec) false w args) (Rows.chainFullSpec.post enc Tryz.prog Tryz.f3 false true false false) := by
  refine returnsInHanded_of_change_and (C := Tryz.checked) (X := fun w _ => laidMetH Tryz.prog Rows.chainFullRow.laid w) (fun _ _ _ hh h => h.of_heap hh) own started (by kernel_rfl) Tryz.func3
    (ChangeSpec.witness_at (enc := enc) (C := Tryz.checked) (os := os) (X := fun w _ => laidMetH Tryz.prog Rows.chainFullRow.laid w) false (laidWorld os) #[.int .i64 0, .slice none 0 0] 8 rfl (by kernel_rfl) (by kernel_rfl) (by kernel_rfl) (by kernel_rfl) (by kernel_rfl) (laidWorld_met os _)) ?_
  intro W base args ds gs before hval0 hW _ _ hL0 _
  have hL : laidMetH Tryz.prog Rows.chainFullRow.laid W := hL0
  have hT0 := tab_of_laid hL
  have hval : ∀ (j : Nat) t v, Tryz.f3.params[j]? = some t → args[j]? = some v → Value.okWide Tryz.prog W .any base t v := hval0
  have hW1 := hW
  obtain ⟨p, q, hA0, hV, rfl, hfz, hnd⟩ := hW
  have hA : DataW.TrodAll enc Tryz.prog W 0 (fun _ => true) true Tryz.f3.params.toList args.toList ds p := hA0
  rw [Tryz.params3] at hA hval
  obtain ⟨v0, vs0, d0, ds0, p0, q0, hargs, rfl, rfl, h0, r0⟩ := trodAll_cons hA
  obtain ⟨v1, vs1, d1, ds1, p1, q1, rfl, rfl, rfl, h1, r1⟩ := trodAll_cons r0
  obtain ⟨rfl, rfl, rfl⟩ := trodAll_nil r1
  obtain rfl : args = #[v0, v1] := by cases args; simp_all
  obtain ⟨rfl, rfl⟩ := trodVars_none hV
  obtain ⟨a0, rfl, rfl, rfl, w0⟩ := open_int Tryz.underlying3 (hval 0 3 v0 rfl rfl) h0
  obtain ⟨A1, n1, c1, rfl⟩ := okWide_slice Tryz.underlying22 (hval 1 22 v1 rfl rfl)
  have k1 := h1
  have lt1 : ∀ x ∈ p1, x.block < W.heap.size := by obtain ⟨m, hm⟩ := k1; exact DataW.trod_lt m _ _ _ hm
  obtain ⟨fu1, hf1⟩ := h1
  obtain ⟨l1, rfl, hm1, hs1, ok1⟩ := sbytes_opened Tryz.underlying22 Tryz.underlying5 (by kernel_rfl) (by simpa [Value.cells] using hf1)
  clear hA0 hval0
  refine (full_walk W hT0 a0 (wf_bounds w0) A1 c1 l1 hm1 hs1 ok1).mono fun e W1 ⟨he, hg⟩ => ?_
  subst he
  have bel := hg.below
  exact ⟨_, rfl, _, _, _, [], _, [], hW1, trodAll_mk1 (shut_bool Tryz.underlying4 _), (trodAll_cons_mk (shut_int Tryz.underlying3 w0) (trodAll_cons_mk (Below.trod laidOut (by kernel_rfl) (of_decide_eq_true (by kernel_rfl)) k1 bel lt1) trodAll_mk0)), rfl, bel.frame _, fun h => by cases h⟩
theorem over : Rows.chainFullRow.holds Tryz.pinned (OpenSpec.ofChange Rows.chainFullSpec) :=
  OpenClaim.holds_of_wide 3 Tryz.f3 rfl rfl rfl rfl rfl rfl rfl ⟨rfl, rfl, rfl, rfl, rfl⟩ rfl rfl rfl rfl rfl (by kernel_rfl) Tryz.func3 (by kernel_rfl)
    (of_decide_eq_true (by kernel_rfl)) (by unfold Func.isWrapper; first | (rw [if_pos (by decide +kernel)]; kernel_rfl) | (rw [if_neg (by decide +kernel)]; exact ⟨rfl, rfl⟩))
    (fun os started H enc _ => lifted os started H enc)
/-- The statement, a card whose listed variable is tied to the program. -/
theorem proved : Rows.ChainFullCardSaid :=
  Claim7.holds_tied_plain_at .later [] [.data] true Rows.chainFullCard.stood.harness false over (fun _ h => by cases h) (by kernel_rfl) (fun _ h => by cases h) chainFull_row_tie rfl ⟨rfl, rfl⟩ (by kernel_rfl) rfl
    (fun f fn hf hfn => by
      obtain rfl : f = 3 := Option.some.inj ((show Tryz.prog.funcNamed Rows.chainFullRow.func = some 3 by kernel_rfl).symm.trans hf) |>.symm
      obtain rfl : fn = Tryz.f3 := (Option.some.inj (Tryz.func3.symm.trans hfn)).symm
      refine ⟨by kernel_rfl, fun j t ht => ?_⟩
      have hall : ∀ t ∈ Tryz.f3.params.toList, Tryz.prog.wantsStandIn t = false := by
        rw [Tryz.params3]
        intro t ht
        simp only [List.mem_cons, List.not_mem_nil, or_false] at ht
        rcases ht with rfl | rfl <;> kernel_rfl
      exact hall t (by rw [Array.mem_toList_iff]; exact Array.mem_of_getElem? ht))
    (by kernel_rfl)
#print axioms proved
end lawChainFull

end Go.Proofs.YtjlfnebkibgfmaaGreatDoor
