/- The pool: Copy and Equal. -/
import Derived.Test.YtenmilemdkhijaaDoorPoolU
namespace Go.Proofs.YtenmilemdkhijaaDoor
open Go.RowKit

theorem wds_one (x : List Bool) : ∀ u ∈ wds x, u.oneCell' = true := by
  intro u hu
  unfold wds at hu
  obtain ⟨k, -, rfl⟩ := List.mem_map.1 hu
  rfl
theorem own_new {w : World} {base : Nat} {e : TypeId} {s n c : Nat} {a : Addr} {xs : List Value} (h : w.ownsRow base e s (.slice (some a) n c) n xs) : ∃ g, a = ⟨g, 0, none⟩ ∧ base ≤ g := by
  rcases h.2 with ⟨h', _⟩ | ⟨g, cap, cur, h', hb, _⟩
  · cases h'
  · simp at h'; exact ⟨g, h'.1, hb⟩

set_option maxHeartbeats 800000 in
theorem pclone_any (x : List Bool) (A : Option Addr) (c : Nat) (w : World) (h : w.ownsRow 0 63 1 (.slice A (nw x) c) (nw x) (wds x)) (hn : nw x ≤ 1000000) :
    Calls Tryd.prog 35 #[.slice A (nw x) c] w fun e w' => OwnOut w w' 63 1 (nw x) (wds x) (fun A c => .slice A (nw x) c) e := by
  obtain ⟨i0, hi0, hz0, hz1, hz2⟩ := info_parts u64Info
  obtain ⟨m, hm⟩ : ∃ m, nw x = m := ⟨_, rfl⟩
  have hlen := wds_len x
  obtain ⟨l, hl⟩ : ∃ l, wds x = l := ⟨_, rfl⟩
  have h1 := wds_one x
  rw [hl] at h hlen h1 ⊢
  rw [hm] at h hn hlen ⊢
  clear hm hl
  rcases A with _ | a
  · obtain ⟨rfl, rfl⟩ := own_none h
    obtain rfl : l = [] := List.eq_nil_of_length_eq_zero hlen
    have hsl := fun (w : World) => Lib.run_eql_slice_nil (P := Tryd.prog) w 60 63 none 0 0 0 0 Tryd.underlying60
    go_enter Tryd.func35, Tryd.ntmps35
    go_wp2
    go_ret
    exact OwnOut.mk none 0 rfl (World.ownsRow_nil _ _ _ _) (Chg.refl _ _)
  · obtain ⟨g, rfl, hg⟩ := own_some h
    have hsl := fun (w : World) => Lib.run_eql_slice_nil (P := Tryd.prog) w 60 63 (some ⟨g, 0, none⟩) m c 0 0 Tryd.underlying60
    have H := Lib.hid (And.intro h (And.intro hlen h1))
    clear h hlen h1
    go_enter Tryd.func35, Tryd.ntmps35
    go_wp2_with (at_builtin; refine wpList_append_own _ rfl _ _ _ rfl w.heap.size 63 i0 _ 1 8 Tryd.underlying60 hi0 hz0 hz1 hz2 rfl (by omega) (.slice (some ⟨w.heap.size, 0, none⟩) 0 0) 0 [] rfl (World.ownsRow_lit w #[] 0 (Nat.le_refl _) (by simp [maxLen]) (by simp)) ⟨g, 0, none⟩ m c l rfl (by rw [Nat.mul_one]; exact H.out.2.1) ((H.out.1.alloc _).cells (g := g) rfl) H.out.2.2 (by simp only [maxLen]; omega) (by omega) (by simp) ?_; intro v1 w1 hown1 hgrow hnil; have HO := Lib.hid hown1; have HG := Lib.hid hgrow; clear hown1 hgrow hnil)
    go_ret
    obtain ⟨A', c', rfl, -⟩ := own_shape HO.out
    refine OwnOut.mk A' c' ?_ ?_ ?_
    · simp
    · simpa using HO.out
    · exact ((Chg.refl NoF w).alloc _).grown HG.out (fun k hk hlt => by simp [Value.ownBlock] at hk; omega)

/-- A copy's answer: new blocks alone. -/
def PCopied (w w' : World) (x : List Bool) (e : Ending) : Prop := ∃ b A c, e = .returned (.pointer (some ⟨b, 0, none⟩)) ∧ PIn w' b x A c ∧ Grew w w' ∧ ∀ j, PF b A j → w.heap.size ≤ j

set_option maxHeartbeats 800000 in
theorem pcopy_any (b : Nat) (x : List Bool) (A : Option Addr) (c : Nat) (w : World) (h : PIn w b x A c) (hl : x.length ≤ 65536) :
    Calls Tryd.prog 23 #[.pointer (some ⟨b, 0, none⟩)] w fun e w' => PCopied w w' x e := by
  obtain ⟨c2, f2, s2⟩ := h.blk.facts
  have hnl := nw_le x
  have H := Lib.hid h
  have c20 := c2 0
  have c21 := c2 1
  have hb := h.blk.lt
  simp only [List.getElem?_toArray, List.getElem?_cons_zero, List.getElem?_cons_succ] at c20 c21
  clear h c2 f2
  go_enter Tryd.func23, Tryd.ntmps23
  go_wp2_with fail
  go_region_held3 (fun w' => ∀ (B i : Nat), B < w.heap.size → w'.cell? ⟨B, i, none⟩ = w.cell? ⟨B, i, none⟩)
    ((intro B i hB1; first | rfl | exact hg4.cell (p := ⟨B, i, none⟩) (by simp; omega) id | exact (hg4.alloc _).cell (p := ⟨B, i, none⟩) (by simp; omega) id))
    ((go_at_call 35; refine (pclone_any x A c _ (H.out.grew ((Chg.refl _ _).drew)).own (by omega)).mono ?_; rintro e w4 ⟨A4, c4, rfl, ho4, hg4⟩; have HO4 := Lib.hid ho4; clear ho4))
  all_goals
    go_wp2
    refine bodyPost_ret (v := .pointer (some ⟨w4.heap.size, 0, none⟩)) (by simp [results, Tryd.results23, go_sem]) rfl ⟨w4.heap.size, A4, c4, rfl, ⟨Blk.new _ _ _, own_base (own_grew HO4.out ((Chg.refl NoF _).alloc _)) (Nat.zero_le _)⟩, Grew.trans (Chg.drew (Chg.refl _ _)) (hg4.alloc _), fun k hk => ?_⟩
    have hsz := hg4.size
    simp only [World.size_drew] at hsz
    rcases hk with rfl | ⟨a, rfl, rfl⟩
    · exact hsz
    · obtain ⟨g, rfl, hg⟩ := own_new HO4.out
      simpa using hg

theorem wds_inj {x y : List Bool} (hl : x.length = y.length) (h : ∀ k, k < nw x → wd x k = wd y k) : x = y := by
  refine ext_getD hl fun j => ?_
  by_cases hj : j < x.length
  · have h1 := wd_bit x (j / 64) (j % 64)
    have h2 := wd_bit y (j / 64) (j % 64)
    rw [h _ (in_nw hj), h2] at h1
    have e : 64 * (j / 64) + j % 64 = j := by omega
    rw [e] at h1
    have e2 : j % 64 < 64 := by omega
    simpa [e2] using h1.symm
  · rw [List.getD_eq_getElem?_getD, List.getD_eq_getElem?_getD, List.getElem?_eq_none (by omega), List.getElem?_eq_none (by omega)]

/-- Are two lists the same? Not to be taken apart. -/
def sameB (x y : List Bool) : Bool := decide (x = y)

set_option maxHeartbeats 800000 in
theorem pslequal_any (b b' : Nat) (x y : List Bool) (A A' : Option Addr) (c c' : Nat) (w : World) (h : PIn w b x A c) (h' : PIn w b' y A' c') (hl : x.length ≤ 65536) (hxy : x.length = y.length) :
    Calls Tryd.prog 36 #[.slice A (nw x) c, .slice A' (nw y) c'] w fun e w' => (e = .returned (.bool (sameB x y)) ∧ ∃ n, w' = w.drewN n) := by
  have hnl := nw_le x
  have hn2 : nw y = nw x := by unfold nw; rw [hxy]
  have Hn2 := Lib.hid hn2
  have Hxy := Lib.hid hxy
  have H := Lib.hid (And.intro h h')
  clear h h' hn2 hxy
  rw [Hn2.out]
  go_enter Tryd.func36, Tryd.ntmps36
  go_wp2
  go_loopw [13] (fun i wr => (∃ k : Nat, k ≤ nw x ∧ i = .int .i64 k ∧ (∀ j, j < k → wd x j = wd y j)) ∧ ∃ n, wr = w.drewN n) (fun i _ => nw x - (intOf i).toNat)
  case atStart => exact ⟨⟨0, by omega, rfl, fun j hj => absurd hj (by omega)⟩, 0, rfl⟩
  case round =>
    obtain ⟨⟨k, hk, rfl, hall⟩, hwr⟩ := hrel
    have hgw : Grew w wr := by obtain ⟨n, e⟩ := hwr; rw [e]; exact (Chg.refl NoF w).drewN n
    have HA := Lib.hid (And.intro hall hwr)
    have HG := Lib.hid hgw
    clear hall hwr hgw
    by_cases hlt : k < nw x
    · obtain ⟨g, rfl, hg, hgb, d0, fr⟩ := (H.out.1.grew HG.out).word hlt
      obtain ⟨g', rfl, hg', hgb', d0', fr'⟩ := (H.out.2.grew HG.out).word (show k < nw y by rw [Hn2.out]; exact hlt)
      have t1 : (0 : Int) ≤ (k : Int) := by omega
      have t2 : (k : Int) < (nw x : Int) := by omega
      by_cases he : wd x k = wd y k
      · have t3 : ((wd x k : Int) != (wd y k : Int)) = false := by simp [he]
        have HE := Lib.hid he
        clear he
        go_wp2_with fail
        go_quiet (fail)
        go_wp2_with fail
        exact ⟨⟨⟨k + 1, by omega, by simp, fun j hj => by
          by_cases e : j = k
          · rw [e]; exact HE.out
          · exact HA.out.1 j (by omega)⟩, by obtain ⟨n, e⟩ := HA.out.2; exact ⟨n + _, by rw [e, World.drewN_drewN]⟩⟩, by simp [intOf]; omega⟩
      · have t3 : ((wd x k : Int) != (wd y k : Int)) = true := by simpa using fun h => he (Int.ofNat.inj h)
        have HE := Lib.hid he
        clear he
        go_wp2_with fail
        go_quiet (fail)
        go_wp2_with fail
        go_ret
        refine ⟨?_, by obtain ⟨n, e⟩ := HA.out.2; exact ⟨n + _, by rw [e, World.drewN_drewN]⟩⟩
        have : sameB x y = false := decide_eq_false fun e => HE.out (by rw [e])
        rw [this]
        rfl
    · obtain rfl : k = nw x := by omega
      go_wp2_with fail
      go_ret
      refine ⟨?_, HA.out.2⟩
      have : sameB x y = true := decide_eq_true (wds_inj Hxy.out HA.out.1)
      rw [this]
      rfl

set_option maxHeartbeats 800000 in
theorem pequal_any (b b' : Nat) (x y : List Bool) (A A' : Option Addr) (c c' : Nat) (w : World) (h : PIn w b x A c) (h' : PIn w b' y A' c') (hl : x.length ≤ 65536) (hxy : x.length = y.length) :
    Calls Tryd.prog 24 #[.pointer (some ⟨b, 0, none⟩), .pointer (some ⟨b', 0, none⟩)] w fun e w' => (e = .returned (.bool (sameB x y)) ∧ Grew w w') := by
  obtain ⟨c0, f0, s0⟩ := h.blk.facts
  obtain ⟨c1, f1, s1⟩ := h'.blk.facts
  have Hxy := Lib.hid hxy
  rw [← hxy] at c1
  have H := Lib.hid (And.intro h h')
  have hn2 : nw y = nw x := by unfold nw; rw [hxy]
  have hs := fun n => pslequal_any b b' x y A A' c c' (w.drewN n) (h.grew ((Chg.refl _ _).drewN n)) (h'.grew ((Chg.refl _ _).drewN n)) hl hxy
  rw [hn2] at c1 hs
  have HS := Lib.hid hs
  have c20 := c0 0
  have c21 := c0 1
  have c30 := c1 0
  have c31 := c1 1
  simp only [List.getElem?_toArray, List.getElem?_cons_zero, List.getElem?_cons_succ] at c20 c21 c30 c31
  have t1 : ((x.length : Int) == (x.length : Int)) = true := by simp
  clear h h' hxy hn2 c0 c1 hs
  go_enter Tryd.func24, Tryd.ntmps24
  go_wp2_with fail
  go_quiet ((go_at_call 36; exact Calls.quiet_of (HS.out _)))
  go_wp2_with fail
  go_ret
  exact ⟨rfl, (Chg.refl NoF w).drewN _⟩

end Go.Proofs.YtenmilemdkhijaaDoor
