/- QueueCopies. -/
import Derived.Test.YtjdbaeogoifdfaaQueXl
import Derived.Test.YtjdbaeogoifdfaaQueXm
import Derived.Maps.AppendAt
import Derived.Laws.OwnMore
import Derived.Deep.RegionHeldLaw
import Derived.Outline
namespace Go.Proofs.Ytjdbaeogoifdfaa
open Go.RowKit Go.Maps

/-- append(v, xs...), where xs reads as a list, nil let in. -/
theorem append_sl {P : Program} {w : World} {base : Nat} {t ty e : TypeId} {i : TypeInfo} {z : Value} {size bytes : Nat} (ht : P.underlying t = some (.slice e)) (hi : P.info? e = some i) (hz : i.zero = some z)
    (hsize : i.size = size) (hby : i.bytes = bytes) (hzs : z.cells.size = size) (hsz : 0 < size)
    {v : Value} {n : Nat} {xs : List Value} (hown : w.ownsRow base e size v n xs) {A : Option Addr} {m c : Nat} {news : List Value} (hr : Sl w size A m news) (hnil : A = none → c = 0) (h1 : ∀ u ∈ news, u.oneCell' = true)
    (h63 : n + m ≤ maxLen) (hbytes : (n + m) * bytes ≤ 140737488355328) (hbase : base ≤ w.heap.size) :
    ∃ v' w', (Builtin.append_ #[t, t] ty #[v, .slice A m c]).run P w = .ok v' w' ∧ w'.ownsRow base e size v' (n + m) (xs ++ news) ∧ w.grownBy w' v.ownBlock := by
  rcases A with _ | a
  · have hm : m = 0 := by
      rcases Nat.eq_zero_or_pos m with h0 | h0
      · exact h0
      · obtain ⟨_, _, h, _⟩ := hr.2 h0
        cases h
    subst hm
    have hn : news = [] := List.eq_nil_of_length_eq_zero (by simpa using hr.1)
    subst hn
    rw [hnil rfl]
    exact ⟨v, w, run_append_owned_none w base t ty e i size ht hi v n xs hown, by simpa using hown, World.grownBy.refl w _⟩
  · have hcells : ∀ j u, news[j]? = some u → w.cell? (a.add j) = some u := by
      intro j u hu
      rcases Nat.eq_zero_or_pos m with h0 | h0
      · subst h0
        have hn : news = [] := List.eq_nil_of_length_eq_zero (by simpa using hr.1)
        subst hn
        simp at hu
      · obtain ⟨b, off, h, _, hc⟩ := hr.2 h0
        injection h with h
        subst h
        rw [Addr.add_lit]
        exact hc j u hu
    obtain ⟨v', w', hrun, h2, h3, _, _⟩ := run_append_own_at (P := P) w base t ty e i z size bytes ht hi hz hsize hby hzs hsz v n xs hown a m c news hr.1 hcells h1 h63 hbytes hbase
    exact ⟨v', w', hrun, h2, h3⟩

set_option maxRecDepth 100000 in
set_option maxHeartbeats 1600000 in
theorem copies_out (l m : List Qop) (A B : Option Addr) (c d : Nat) (w : World) (h : l.length > 60 ∨ m.length > 60) (hln : (l.length : Int) ≤ 9223372036854775807) (hmn : (m.length : Int) ≤ 9223372036854775807) :
    Calls Try.prog 7 #[.slice A l.length c, .slice B m.length d] w fun e w' => e = .returned (.bool true) ∧ Grew w w' := by
  by_cases h1 : l.length > 60
  · clear h
    go_enter Try.func7, Try.ntmps7
    go_wp2_with (first
      | (go_at_call 8; refine (new_any _).mono ?_; rintro e w1 ⟨rfl, rfl⟩)
      | (go_at_call 9; refine (awake_any _).mono ?_; rintro e w2 ⟨rfl, hg2⟩))
    go_ret
    exact ⟨rfl, Grew.trans (((Chg.refl _ _).alloc _).alloc _) hg2⟩
  · have h2 : m.length > 60 := by omega
    have h1' : l.length ≤ 60 := by omega
    clear h h1
    go_enter Try.func7, Try.ntmps7
    go_wp2_with (first
      | (go_at_call 8; refine (new_any _).mono ?_; rintro e w1 ⟨rfl, rfl⟩)
      | (go_at_call 9; refine (awake_any _).mono ?_; rintro e w2 ⟨rfl, hg2⟩))
    go_ret
    exact ⟨rfl, Grew.trans (((Chg.refl _ _).alloc _).alloc _) hg2⟩

/-- The copy's state. -/
theorem sq_copy {w : Bs} {W W9 W10 W11 : World} {b S c M cs : Nat} {l s : List Itm} {A As : Option Addr} {added : Int} (h : SQ w W b S l s A c M As cs added) {b4 c4 M4 : Nat} {A4 : Option Addr} (hq : Q W9 b4 l A4 c4 M4 added) (hg9 : Grew W W9) (hn : ∀ k, QF b4 A4 M4 k → W.heap.size ≤ k)
    (hg10 : Grew W9 W10) {A5 : Option Addr} {c5 : Nat} (ho : W10.ownsRow W9.heap.size 47 3 (.slice A5 s.length c5) s.length (s.flatMap Itm.vals)) (hX : W10.alloc (.cells #[.slice A5 s.length c5, .int .i64 added] 37) = W11) :
    SQ (Bs.of W) W11 b4 W10.heap.size l s A4 c4 M4 A5 c5 added := by
  have hg11 : Grew W10 W11 := hX ▸ (Chg.refl _ _).alloc _
  have hlt := fun k (hk : QF b4 A4 M4 k) => QF_old hq hk
  have h9 := hg9.size
  have h10 := hg10.size
  refine ⟨⟨⟨(hq.grew hg10).grew hg11, (Grew.trans (Grew.trans hg9 hg10) hg11).chg, hn⟩, hX ▸ Blk.new _ _ _, (Sl.of_own ho).grew hg11, (by show W.heap.size ≤ _; omega), fun hf => by have := hlt _ hf; omega, fun a ha => ?_, fun e => by subst e; exact (own_none ho).2⟩, h.hp, h.ql, h.nb, h.ad⟩
  subst ha
  obtain ⟨g, rfl, hg⟩ := own_some ho
  obtain ⟨g', e, hge⟩ := own_new ho
  cases e
  have h11 := hg11.size
  exact ⟨by show g < _; omega, fun hf => by have := hlt _ hf; simp only [] at this; omega, by show g ≠ _; omega⟩

set_option maxRecDepth 100000 in
set_option maxHeartbeats 3200000 in
theorem copies_in (l m : List Qop) (A B : Option Addr) (c d : Nat) (w : World) (hl : l.length ≤ 60) (hm : m.length ≤ 60) (hs : Sl w 4 A l.length (l.flatMap Qop.vals)) (hok : ∀ r ∈ l, r.ok) (hs2 : Sl w 4 B m.length (m.flatMap Qop.vals)) (hok2 : ∀ r ∈ m, r.ok) :
    Calls Try.prog 7 #[.slice A l.length c, .slice B m.length d] w fun e w' => e = .returned (.bool true) ∧ Grew w w' := by
  obtain ⟨i0, hi0, hz0, hz1, hz2⟩ := info_parts xitInfo
  have Hs := Lib.hid (And.intro hs hok)
  have Hm := Lib.hid (And.intro hs2 hok2)
  have hl' : (l.length : Int) ≤ 60 := by omega
  have hm' : (m.length : Int) ≤ 60 := by omega
  clear hs hok hs2 hok2
  obtain ⟨W1, hW1⟩ : ∃ W1, (w.alloc (.map #[] 0)).alloc (.cells #[.slice none 0 0, .map (some w.heap.size), .int .i64 0] 55) = W1 := ⟨_, rfl⟩
  obtain ⟨W2, hW2⟩ : ∃ W2, W1.alloc (.cells #[.slice none 0 0, .int .i64 0] 37) = W2 := ⟨_, rfl⟩
  have H2 := Lib.hid (sq_start hW1 hW2)
  have HW1 := Lib.hid hW1
  have HW2 := Lib.hid hW2
  clear hW1 hW2
  obtain ⟨b, hb⟩ : ∃ b, w.heap.size + 1 = b := ⟨_, rfl⟩
  have Hb := Lib.hid hb
  have hz : W1.heap.size = b + 1 := by rw [← HW1.out, ← hb]; simp
  rw [hb, hz] at H2
  clear hb hz
  go_enter Try.func7, Try.ntmps7
  go_wp2_with (go_at_call 8; refine (new_any _).mono ?_; rintro e w1 ⟨rfl, rfl⟩)
  rw [HW1.out, HW2.out]
  rw [Hb.out]
  go_loopw [35] (fun i wr => ∃ (k : Nat) (added : Int), k ≤ l.length ∧ i = .int .i64 k ∧ SQs (Bs.of w) wr b (b + 1) w.heap.size added ∧ added ≤ k) (fun i _ => l.length - (intOf i).toNat)
  case atStart => exact ⟨0, 0, by omega, rfl, ⟨_, _, _, _, _, _, H2.out⟩, by omega⟩
  case round =>
    obtain ⟨k, added, hk, rfl, hq, had⟩ := hrel
    obtain ⟨lq, sq, Aq, cq, As, cs, hq⟩ := hq
    have HQ := Lib.hid hq
    have hgw := hq.grewOf
    have HG := Lib.hid hgw
    clear hq hgw
    by_cases hlt : k < l.length
    · obtain ⟨o, ho⟩ : ∃ o, l[k]? = some o := ⟨_, List.getElem?_eq_getElem hlt⟩
      obtain ⟨g, off, rfl, hb, d0, d1, d2, d3⟩ := (Hs.out.1.grew HG.out).atQop ho
      have HO := Lib.hid (Hs.out.2 o (List.mem_of_getElem? ho))
      clear ho
      go_wp2_with (go_at_call 14; refine (sstep_any o HO.out (Bs.of w) _ b (b + 1) cq w.heap.size cs lq sq Aq As added (HQ.out.on ((Chg.refl _ _).alloc _)) (by omega)).mono ?_; rintro e w5 ⟨rfl, hs5⟩; obtain ⟨added', ⟨l5, s5', A5, c5, As5, cs5, hq5⟩, ha1, ha2⟩ := hs5.sqs; have HQ5 := Lib.hid hq5; clear hs5 hq5)
      exact ⟨⟨k + 1, added', by omega, by simp, ⟨_, _, _, _, _, _, HQ5.out⟩, by omega⟩, by simp [intOf]; omega⟩
    · obtain rfl : k = l.length := by omega
      obtain ⟨wo, rfl⟩ : ∃ wo : World, wo = wr := ⟨_, rfl⟩
      have hlq : lq.length ≤ 60 := by have := HQ.out.ad.2; omega
      have hsq : sq.length ≤ 60 := by rw [HQ.out.len]; exact hlq
      go_wp2_with fail
      refine (qcopy_any b lq Aq cq w.heap.size added wo HQ.out.p.q.q (by omega)).mono ?_
      rintro e w9 ⟨b4, A4, c4, M4, rfl, hq4, hg9, hn4⟩
      have H9 := Lib.hid (And.intro hq4 (And.intro hg9 hn4))
      have HQ9 := Lib.hid (HQ.out.on hg9)
      clear hq4 hg9 hn4
      obtain ⟨c0, f0, s0⟩ := HQ9.out.p.blk.facts
      have c00 := c0 0
      have c01 := c0 1
      simp only [List.getElem?_toArray, List.getElem?_cons_zero, List.getElem?_cons_succ] at c00 c01
      clear c0 f0
      obtain ⟨vA, w10, hrun, hown, hgr⟩ := append_sl (P := Try.prog) (w := (w9.alloc (.cells #[] 47)).drew) (base := w9.heap.size) (t := 35) (ty := 35) (e := 47) (v := .slice (some ⟨w9.heap.size, 0, none⟩) 0 0) (n := 0) (xs := []) Try.underlying35 hi0 hz0 hz1 hz2 rfl (by omega)
        (World.ownsRow_lit w9 #[] 0 (Nat.le_refl _) (by simp [maxLen]) (by simp)) (A := As) (m := sq.length) (c := cs) (HQ9.out.p.sl.grew (((Chg.refl NoF _).alloc _).drew)) HQ9.out.p.nil (Itm.one_cell sq) (by simp only [maxLen]; omega) (by omega) (by simp)
      have hg10 : Grew w9 w10 := (((Chg.refl NoF w9).alloc _).drew).grown hgr (fun k hk hlt => by simp [Value.ownBlock] at hk; omega)
      obtain ⟨A5, c5, rfl, -⟩ := own_shape hown
      simp only [Nat.zero_add, List.nil_append] at hown hrun
      have HR := Lib.hid hrun
      have H10 := Lib.hid (And.intro hg10 hown)
      clear hrun hown hgr hg10
      go_wp2_with fail
      go_region_held_law (fun w' => w'.cell? ⟨b + 1, 0, none⟩ = some (.slice As sq.length cs) ∧ w'.cell? ⟨b + 1, 1, none⟩ = some (.int .i64 added))
        ((refine ⟨?_, ?_⟩ <;> first | exact c00 | exact c01 | exact (((Chg.refl NoF w9).alloc _).cell (p := ⟨b + 1, 0, none⟩) s0 id).trans c00 | exact (((Chg.refl NoF w9).alloc _).cell (p := ⟨b + 1, 1, none⟩) s0 id).trans c01 | exact (H10.out.1.cell (p := ⟨b + 1, 0, none⟩) s0 id).trans c00 | exact (H10.out.1.cell (p := ⟨b + 1, 1, none⟩) s0 id).trans c01 | exact ((H10.out.1.alloc _).cell (p := ⟨b + 1, 0, none⟩) s0 id).trans c00 | exact ((H10.out.1.alloc _).cell (p := ⟨b + 1, 1, none⟩) s0 id).trans c01))
        ((refine step_append_run (by rfl) _ _ _ (by rfl) (by rfl) (by rfl) HR.out ?_))
      all_goals
        obtain ⟨w11, hw11⟩ : ∃ w11, w10.alloc (.cells #[.slice A5 sq.length c5, .int .i64 added] 37) = w11 := ⟨_, rfl⟩
        have h11 := sq_copy HQ.out H9.out.1 H9.out.2.1 H9.out.2.2 H10.out.1 H10.out.2 hw11
        have H11 := Lib.hid h11
        have hw11' := Lib.hid hw11
        obtain ⟨S4, hS4⟩ : ∃ S4, w10.heap.size = S4 := ⟨_, rfl⟩
        rw [hS4] at H11
        have HS4 := Lib.hid hS4
        clear hw11 h11 hS4 c00 c01 s0
        go_wp2_with (first | (rw [hw11'.out]) | (rw [HS4.out]))
        go_loopw [62] (fun i wr => ∃ (k : Nat) (ad2 : Int), k ≤ m.length ∧ i = .int .i64 k ∧ SQs (Bs.of wo) wr b4 S4 M4 ad2 ∧ ad2 ≤ added + k) (fun i _ => m.length - (intOf i).toNat)
        case atStart => exact ⟨0, added, by omega, rfl, ⟨_, _, _, _, _, _, H11.out⟩, by omega⟩
        case round =>
          obtain ⟨k, ad2, hk, rfl, hq2, had2⟩ := hrel
          obtain ⟨l2, s2, A2, c2, As2, cs2, hq2⟩ := hq2
          have HQ2 := Lib.hid hq2
          have hgw2 := hq2.grewOf
          have HG2 := Lib.hid hgw2
          clear hq2 hgw2
          by_cases hlt2 : k < m.length
          · obtain ⟨o, ho⟩ : ∃ o, m[k]? = some o := ⟨_, List.getElem?_eq_getElem hlt2⟩
            obtain ⟨g, off, rfl, hb, d0, d1, d2, d3⟩ := (Hm.out.1.grew (Grew.trans HG.out HG2.out)).atQop ho
            have HO := Lib.hid (Hm.out.2 o (List.mem_of_getElem? ho))
            clear ho
            go_wp2_with (go_at_call 14; refine (sstep_any o HO.out (Bs.of wo) _ b4 S4 c2 M4 cs2 l2 s2 A2 As2 ad2 (HQ2.out.on ((Chg.refl _ _).alloc _)) (by omega)).mono ?_; rintro e w5 ⟨rfl, hs5⟩; obtain ⟨added', ⟨l5, s5', A5', c5', As5, cs5, hq5⟩, ha1, ha2⟩ := hs5.sqs; have HQ5 := Lib.hid hq5; clear hs5 hq5)
            exact ⟨⟨k + 1, added', by omega, by simp, ⟨_, _, _, _, _, _, HQ5.out⟩, by omega⟩, by simp [intOf]; omega⟩
          · obtain rfl : k = m.length := by omega
            have hl2 : l2.length ≤ 1000 := by have := HQ2.out.ad.2; omega
            go_wp2_with fail
            refine (ssame_any (Bs.of wo) wr b4 S4 c2 M4 cs2 l2 s2 A2 As2 ad2 HQ2.out hl2).mono ?_
            rintro e w6 ⟨rfl, hg6⟩
            have HG6 := Lib.hid hg6
            clear hg6
            go_wp2_with fail
            refine (ssame_any (Bs.of w) w6 b (b + 1) cq w.heap.size cs lq sq Aq As added (HQ.out.on (Grew.trans HG2.out HG6.out)) (by omega)).mono ?_
            rintro e w7 ⟨rfl, hg7⟩
            have HG7 := Lib.hid hg7
            clear hg7
            go_wp2_with (go_at_call 9; refine (awake_any _).mono ?_; rintro e w8 ⟨rfl, hg8⟩)
            go_ret
            exact ⟨rfl, Grew.trans (Grew.trans HG.out HG2.out) (Grew.trans HG6.out (Grew.trans HG7.out hg8))⟩

end Go.Proofs.Ytjdbaeogoifdfaa
