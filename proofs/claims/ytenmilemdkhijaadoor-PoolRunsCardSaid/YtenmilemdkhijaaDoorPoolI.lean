/- PoolTakes. -/
import Derived.Test.YtenmilemdkhijaaDoorPoolH
namespace Go.Proofs.YtenmilemdkhijaaDoor
open Go.RowKit

/-- The first k are taken. -/
def clr (y : List Bool) (k : Nat) : List Bool := y.mapIdx fun j b => decide (k ≤ j) && b
theorem clr_len (y : List Bool) (k : Nat) : (clr y k).length = y.length := by simp [clr]
theorem clr_at (y : List Bool) (k j : Nat) : (clr y k).getD j false = (decide (k ≤ j) && y.getD j false) := by
  unfold clr
  rw [List.getD_eq_getElem?_getD, List.getElem?_mapIdx, List.getD_eq_getElem?_getD]
  cases y[j]? <;> simp
theorem ext_getD {x y : List Bool} (hl : x.length = y.length) (h : ∀ j, x.getD j false = y.getD j false) : x = y := by
  apply List.ext_getElem?
  intro j
  by_cases hj : j < x.length
  · have := h j
    rw [List.getD_eq_getElem?_getD, List.getD_eq_getElem?_getD, List.getElem?_eq_getElem hj, List.getElem?_eq_getElem (by omega)] at this
    rw [List.getElem?_eq_getElem hj, List.getElem?_eq_getElem (by omega)]
    simpa using this
  · rw [List.getElem?_eq_none (by omega), List.getElem?_eq_none (by omega)]
theorem clr_zero (y : List Bool) : clr y 0 = y := ext_getD (clr_len _ _) fun j => by rw [clr_at]; simp
theorem trn_at {x : List Bool} {i : Nat} (hi : i < x.length) (j : Nat) : (trn x i).getD j false = if j = i then !x.getD i false else x.getD j false := getD_set _ _ _ _ hi
theorem clr_take {y : List Bool} {k : Nat} (hk : k < y.length) (h : y.getD k false = true) : nxt (clr y k) 0 = some k ∧ trn (clr y k) k = clr y (k + 1) := by
  have hno : ∀ m, 0 ≤ m → m < k → (clr y k).getD m false = false := fun m _ hm => by
    rw [clr_at]
    have : ¬ k ≤ m := by omega
    simp [this]
  refine ⟨nxt_some.2 ⟨Nat.zero_le _, by rw [clr_len]; exact hk, by rw [clr_at, h]; simp, hno⟩, ?_⟩
  refine ext_getD (by rw [trn_len, clr_len, clr_len]) fun j => ?_
  rw [trn_at (by rw [clr_len]; exact hk), clr_at, clr_at, clr_at, h]
  by_cases hj : j = k
  · subst hj
    have : decide (j + 1 ≤ j) = false := decide_eq_false (by omega)
    rw [if_pos rfl, this]
    simp
  · rw [if_neg hj]
    have : decide (k ≤ j) = decide (k + 1 ≤ j) := decide_eq_decide.2 (by omega)
    rw [this]
theorem clr_skip {y : List Bool} {k : Nat} (h : y.getD k false = false) : clr y k = clr y (k + 1) := by
  refine ext_getD (by rw [clr_len, clr_len]) fun j => ?_
  rw [clr_at, clr_at]
  by_cases hj : j = k
  · subst hj; rw [h]; simp
  · have : decide (k ≤ j) = decide (k + 1 ≤ j) := decide_eq_decide.2 (by omega)
    rw [this]
theorem clr_end {y : List Bool} : nxt (clr y y.length) 0 = none ∧ cnt (clr y y.length) = 0 := by
  have h : ∀ j, (clr y y.length).getD j false = false := fun j => by
    rw [clr_at]
    by_cases hj : y.length ≤ j
    · rw [List.getD_eq_getElem?_getD, List.getElem?_eq_none hj]; simp
    · simp [hj]
  exact ⟨nxt_none.2 fun m _ => h m, cntN_false fun j _ => h j⟩
theorem clr_full (n : Nat) : clr (full n) n = List.replicate n false := by
  refine ext_getD (by rw [clr_len, full_len, List.length_replicate]) fun j => ?_
  rw [clr_at, full_at]
  rw [List.getD_eq_getElem?_getD, List.getElem?_replicate]
  by_cases h : j < n
  · have : ¬ n ≤ j := by omega
    simp [h, this]
  · simp [h]

theorem sl_atInt {w : World} {A : Option Addr} {n : Nat} {xs : List Int} (h : Sl w 1 A n (xs.map (Value.int .i64))) {k : Nat} {v : Int} (hx : xs[k]? = some v) :
    ∃ g off, A = some ⟨g, off, none⟩ ∧ g < w.heap.size ∧ w.cell? ⟨g, off + k, none⟩ = some (.int .i64 v) := by
  have hk : k < xs.length := (List.getElem?_eq_some_iff.1 hx).1
  have hl := h.1
  rw [List.length_map] at hl
  obtain ⟨g, off, hA, hb, hc⟩ := h.2 (by omega)
  exact ⟨g, off, hA, hb, hc k _ (by simp [hx])⟩
theorem toL_out {y : List Bool} {v : Int} {f : Bool} (h : v < 0 ∨ y.length ≤ v) : toL y v f = (y, 11) := by unfold toL; rw [if_pos h]
theorem toL_state {y : List Bool} {m : Nat} {f : Bool} (hm : m < y.length) (h : y.getD m false = f) : toL y m f = (y, 23) := by unfold toL; rw [if_neg (by omega), Int.toNat_natCast, if_pos h]
theorem toL_turn {y : List Bool} {m : Nat} {f : Bool} (hm : m < y.length) (h : y.getD m false = !f) : toL y m f = (y.set m f, 0) := by
  unfold toL
  rw [if_neg (by omega), Int.toNat_natCast, if_neg (by rw [h]; cases f <;> simp)]
  unfold trn
  rw [h]
  cases f <;> rfl

theorem boolInfo : (Tryd.prog.info? 4).map (fun i => (i.zero, i.size, i.bytes)) = some (some (.bool false), 1, 1) := by kernel_rfl

/-- A row of bools. -/
def BRow (w : World) (base g n : Nat) (y : List Bool) : Prop := w.ownsRow base 4 1 (.slice (some ⟨g, 0, none⟩) n n) n (y.map Value.bool)
theorem BRow.chg {F : Nat → Prop} {w w' : World} {base g n : Nat} {y : List Bool} (h : BRow w base g n y) (hc : Chg F w w') (hF : ¬ F g) : BRow w' base g n y := own_chg h hc fun g' hg' => by
  have : g = g' := by simpa [Value.ownBlock] using hg'
  exact this ▸ hF
theorem BRow.at {w : World} {base g n : Nat} {y : List Bool} (h : BRow w base g n y) {k : Nat} (hk : k < y.length) : w.cell? ⟨g, k, none⟩ = some (.bool (y.getD k false)) ∧ w.frozen? ⟨g, k, none⟩ = false ∧ g < w.heap.size := by
  obtain ⟨cur, -, hgc, hnc, hcm, hcs, htake, -⟩ := own_row h
  have := World.ownsRow.cells (g := g) h rfl k (.bool (y.getD k false)) (by rw [List.getElem?_map, List.getElem?_eq_getElem hk, List.getD_eq_getElem?_getD, List.getElem?_eq_getElem hk]; rfl)
  rw [Addr.add_lit] at this
  exact ⟨by simpa using this, (show Blk w g _ cur from hgc).frozen _, (Array.getElem?_eq_some_iff.1 hgc).1⟩
theorem BRow.put {w : World} {base g n : Nat} {y : List Bool} (h : BRow w base g n y) (k : Nat) (v : Bool) : BRow (w.setCell ⟨g, k, none⟩ (.bool v)) base g n (y.set k v) := by
  have := own_word (j := k) h (.bool v)
  unfold BRow
  rw [List.map_set]
  exact this
theorem PM.far {w W W' : World} {b c g : Nat} {x : List Bool} {A : Option Addr} (h : PM w W b x A c) (hc : Chg (fun j => j = g) W W') (hg : w.heap.size ≤ g) (hp : ¬ PF b A g) : PM w W' b x A c :=
  ⟨h.p.chg hc fun j hj e => hp (e ▸ hj), Chg.trans h.grew hc fun i hi e => by omega, h.new, h.t⟩

set_option maxRecDepth 100000 in
set_option maxHeartbeats 1600000 in
theorem takes_out (n : Int) (l : List Int) (A : Option Addr) (c : Nat) (w : World) (hT : TabAt 0 tab w) (hl : (l.length : Int) ≤ 9223372036854775807) (h : n < 0 ∨ 300 < n ∨ 100 < l.length) :
    Calls Tryd.prog 3 #[.int .i64 n, .slice A l.length c] w fun e w' => e = .returned (.bool true) ∧ Grew w w' := by
  have HT := Lib.hid hT
  clear hT
  by_cases h1 : n < 0
  · clear h
    go_enter Tryd.func3, Tryd.ntmps3
    go_wp2_with (go_at_call 8; refine (pawake_any _ HT.out).mono ?_; rintro e w2 ⟨rfl, hg2⟩)
    go_ret
    exact ⟨rfl, hg2⟩
  by_cases h2 : 300 < n
  · clear h
    go_enter Tryd.func3, Tryd.ntmps3
    go_wp2_with (go_at_call 8; refine (pawake_any _ HT.out).mono ?_; rintro e w2 ⟨rfl, hg2⟩)
    go_ret
    exact ⟨rfl, hg2⟩
  · have h3 : 100 < l.length := by omega
    clear h
    go_enter Tryd.func3, Tryd.ntmps3
    go_wp2_with (go_at_call 8; refine (pawake_any _ HT.out).mono ?_; rintro e w2 ⟨rfl, hg2⟩)
    go_ret
    exact ⟨rfl, hg2⟩

set_option maxRecDepth 100000 in
set_option maxHeartbeats 3200000 in
theorem takes_in (n : Nat) (l : List Int) (A0 : Option Addr) (c0' : Nat) (w : World) (hT : TabAt 0 tab w) (hs : Sl w 1 A0 l.length (l.map (Value.int .i64))) (hn : n ≤ 300) (hl : l.length ≤ 100) :
    Calls Tryd.prog 3 #[.int .i64 n, .slice A0 l.length c0'] w fun e w' => e = .returned (.bool true) ∧ Grew w w' := by
  obtain ⟨i0, hi0, hz0, hz1, hz2⟩ := info_parts boolInfo
  have HT := Lib.hid (And.intro hT hs)
  have Hi := Lib.hid (And.intro hi0 (And.intro hz0 (And.intro hz1 hz2)))
  clear hT hs hi0 hz0 hz1 hz2
  go_enter Tryd.func3, Tryd.ntmps3
  go_wp2_with fail
  refine (pnew_any n w (by omega)).mono ?_
  rintro e w1 ⟨A, c, rfl, hp1, hg1, hn1⟩
  have H1 := Lib.hid (show PM w w1 w.heap.size (full n) A c from ⟨hp1, hg1, hn1, HT.out.1⟩)
  clear hp1 hg1 hn1
  obtain ⟨b, hb⟩ : ∃ b, w.heap.size = b := ⟨_, rfl⟩
  have hb0 := Lib.hid hb
  rw [hb] at H1 ⊢
  clear hb
  go_wp2_with fail
  go_loopw [36] (fun i wr => ∃ k : Nat, k ≤ n ∧ i = .int .i64 k ∧ PM w wr b (clr (full n) k) A c) (fun i _ => n - (intOf i).toNat)
  case atStart => exact ⟨0, by omega, rfl, by rw [clr_zero]; exact H1.out⟩
  case round =>
    obtain ⟨k, hk, rfl, hm⟩ := hrel
    have HM := Lib.hid hm
    clear hm
    by_cases hlt : k < n
    · have hct := Lib.hid (clr_take (y := full n) (k := k) (by rw [full_len]; exact hlt) (by rw [full_at]; simpa using hlt))
      go_wp2_with (go_at_call 10; refine (ptake_some b k _ A c _ HM.out.p (by rw [clr_len, full_len]; omega) HM.out.tab hct.out.1).mono ?_; rintro e w2 ⟨rfl, hp2, hc2⟩; have H2 := Lib.hid (HM.out.to hp2 hc2); clear hp2 hc2)
      exact ⟨⟨k + 1, by omega, by simp, by rw [← hct.out.2]; exact H2.out⟩, by simp [intOf]; omega⟩
    · obtain rfl : k = n := by omega
      obtain ⟨W, rfl⟩ : ∃ W : World, W = wr := ⟨_, rfl⟩
      have hce := clr_end (y := full k)
      rw [full_len] at hce
      have Hce := Lib.hid hce
      obtain ⟨w3, hr3, hown3, hg3⟩ := run_make_full (P := Tryd.prog) W w.heap.size 29 4 i0 (.bool false) 1 Tryd.underlying29 Hi.out.1 Hi.out.2.1 Hi.out.2.2.1 .i64 .i64 k (by rw [Hi.out.2.2.2]; omega) (by simp only [maxLen]; omega) HM.out.grew.size
      have hrow : BRow w3 w.heap.size W.heap.size k (clr (full k) k) := by
        unfold BRow
        rw [clr_full, List.map_replicate]
        have := hown3
        rw [show (Value.bool false).cells = #[.bool false] from rfl, Nat.mul_one, toList_madeCells_one] at this
        exact this
      have hG3 : Grew W w3 := (Chg.refl NoF W).grown hg3 (fun j hj _ => by cases hj)
      obtain ⟨g, hg⟩ : ∃ g, W.heap.size = g := ⟨_, rfl⟩
      have hgp : ¬ PF b A g := fun hf => by have := HM.out.p.lt _ hf; omega
      have hgw : w.heap.size ≤ g := hg ▸ HM.out.grew.size
      rw [hg] at hr3 hrow
      have H3 := Lib.hid (And.intro (HM.out.on hG3) (And.intro hrow (And.intro hgp hgw)))
      have Hg := Lib.hid hg
      clear hce hown3 hg3 hrow hG3 hgp hgw hg
      go_wp2_with (go_at_call 10; refine (ptake_none b _ A c _ HM.out.p (by rw [clr_len, full_len]; omega) HM.out.tab Hce.out.1).mono ?_; rintro e w2 ⟨rfl, rfl⟩)
      go_loopw [63] (fun i wr => ∃ (j : Nat) (y : List Bool), j ≤ l.length ∧ i = .int .i64 j ∧ PM w wr b y A c ∧ y.length = k ∧ BRow wr w.heap.size g k y) (fun i _ => l.length - (intOf i).toNat)
      case atStart => exact ⟨0, _, by omega, rfl, H3.out.1, by rw [clr_len, full_len], H3.out.2.1⟩
      case round =>
        obtain ⟨j, y, hj, rfl, hm, hyl, hrow⟩ := hrel
        have HR := Lib.hid (And.intro hm hrow)
        clear hm hrow
        by_cases hlt2 : j < l.length
        · obtain ⟨v, hv⟩ : ∃ v, l[j]? = some v := ⟨_, List.getElem?_eq_getElem hlt2⟩
          obtain ⟨gl, off, rfl, hbl, d0⟩ := sl_atInt (HT.out.2.grew HR.out.1.grew) hv
          clear hv
          by_cases hv1 : v < 0
          · have Hv := Lib.hid (toL_out (y := y) (v := v) (f := true) (.inl hv1))
            go_wp2_with (go_at_call 11; have h4 := pgive_any b v y A c _ HR.out.1.p (by rw [hyl]; omega); rw [Hv.out] at h4; refine h4.mono ?_; rintro e w5 ⟨rfl, hp5, hc5⟩; have H5 := Lib.hid (And.intro (HR.out.1.to hp5 hc5) hc5); clear hp5 hc5 h4)
            exact ⟨⟨j + 1, y, by omega, by simp, H5.out.1, hyl, HR.out.2.chg H5.out.2 H3.out.2.2.1⟩, by simp [intOf]; omega⟩
          by_cases hv2 : (k : Int) ≤ v
          · have Hv := Lib.hid (toL_out (y := y) (v := v) (f := true) (.inr (by rw [hyl]; exact hv2)))
            have t1 : decide ((k : Int) ≤ v) = true := decide_eq_true hv2
            go_wp2_with (go_at_call 11; have h4 := pgive_any b v y A c _ HR.out.1.p (by rw [hyl]; omega); rw [Hv.out] at h4; refine h4.mono ?_; rintro e w5 ⟨rfl, hp5, hc5⟩; have H5 := Lib.hid (And.intro (HR.out.1.to hp5 hc5) hc5); clear hp5 hc5 h4)
            exact ⟨⟨j + 1, y, by omega, by simp, H5.out.1, hyl, HR.out.2.chg H5.out.2 H3.out.2.2.1⟩, by simp [intOf]; omega⟩
          · obtain ⟨m, rfl⟩ := Int.eq_ofNat_of_zero_le (show 0 ≤ v by omega)
            have hmk : m < k := by omega
            have t1 : decide ((k : Int) ≤ (m : Int)) = false := decide_eq_false hv2
            obtain ⟨x0, xf, xs⟩ := HR.out.2.at (k := m) (by omega)
            cases hym : y.getD m false with
            | true =>
              have Hv := Lib.hid (toL_state (y := y) (m := m) (f := true) (by omega) hym)
              rw [hym] at x0
              clear hym hv1 hv2
              go_wp2_with (go_at_call 11; have h4 := pgive_any b m y A c _ HR.out.1.p (by rw [hyl]; omega); rw [Hv.out] at h4; refine h4.mono ?_; rintro e w5 ⟨rfl, hp5, hc5⟩; have H5 := Lib.hid (And.intro (HR.out.1.to hp5 hc5) hc5); clear hp5 hc5 h4)
              exact ⟨⟨j + 1, y, by omega, by simp, H5.out.1, hyl, HR.out.2.chg H5.out.2 H3.out.2.2.1⟩, by simp [intOf]; omega⟩
            | false =>
              have Hv := Lib.hid (toL_turn (y := y) (m := m) (f := true) (by omega) hym)
              rw [hym] at x0
              obtain ⟨W4, hW4⟩ : ∃ W4, wr.setCell ⟨g, m, none⟩ (.bool true) = W4 := ⟨_, rfl⟩
              have hc4 : Chg (fun j => j = g) wr W4 := hW4 ▸ (Chg.refl (fun j => j = g) wr).setCell (p := ⟨g, m, none⟩) (fun _ => rfl) _
              have H4 := Lib.hid (And.intro (HR.out.1.far hc4 H3.out.2.2.2 H3.out.2.2.1) (show BRow W4 w.heap.size g k (y.set m true) from hW4 ▸ HR.out.2.put m true))
              have HW4 := Lib.hid hW4
              clear hym hv1 hv2 hW4 hc4
              go_wp2_with (first
                | (rw [HW4.out])
                | (go_at_call 11; have h4 := pgive_any b m y A c _ H4.out.1.p (by rw [hyl]; omega); rw [Hv.out] at h4; refine h4.mono ?_; rintro e w5 ⟨rfl, hp5, hc5⟩; have H5 := Lib.hid (And.intro (H4.out.1.to hp5 hc5) hc5); clear hp5 hc5 h4))
              exact ⟨⟨j + 1, y.set m true, by omega, by simp, H5.out.1, by rw [List.length_set]; exact hyl, H4.out.2.chg H5.out.2 H3.out.2.2.1⟩, by simp [intOf]; omega⟩
        · go_wp2_with fail
          go_loopw [91] (fun i wr => ∃ j : Nat, j ≤ k ∧ i = .int .i64 j ∧ PM w wr b (clr y j) A c ∧ BRow wr w.heap.size g k y) (fun i _ => k - (intOf i).toNat)
          case atStart => exact ⟨0, by omega, rfl, by rw [clr_zero]; exact HR.out.1, HR.out.2⟩
          case round =>
            obtain ⟨m, hm, rfl, hpm, hrow⟩ := hrel
            have HM3 := Lib.hid (And.intro hpm hrow)
            clear hpm hrow
            by_cases hlt3 : m < k
            · obtain ⟨x0, xf, xs⟩ := HM3.out.2.at (k := m) (by omega)
              cases hym : y.getD m false with
              | true =>
                have hct := Lib.hid (clr_take (y := y) (k := m) (by omega) hym)
                rw [hym] at x0
                clear hym
                go_wp2_with (go_at_call 10; refine (ptake_some b m _ A c _ HM3.out.1.p (by rw [clr_len]; omega) HM3.out.1.tab hct.out.1).mono ?_; rintro e w5 ⟨rfl, hp5, hc5⟩; have H5 := Lib.hid (And.intro (HM3.out.1.to hp5 hc5) hc5); clear hp5 hc5)
                exact ⟨⟨m + 1, by omega, by simp, by rw [← hct.out.2]; exact H5.out.1, HM3.out.2.chg H5.out.2 H3.out.2.2.1⟩, by simp [intOf]; omega⟩
              | false =>
                have hcs := Lib.hid (clr_skip hym)
                rw [hym] at x0
                clear hym
                go_wp2_with fail
                exact ⟨⟨m + 1, by omega, by simp, by rw [← hcs.out]; exact HM3.out.1, HM3.out.2⟩, by simp [intOf]; omega⟩
            · obtain rfl : m = k := by omega
              have hce2 := clr_end (y := y)
              rw [hyl] at hce2
              have Hce2 := Lib.hid hce2
              clear hce2
              go_wp2_with (first
                | (go_at_call 12; refine (pfree_any b _ A c _ HM3.out.1.p (by rw [clr_len]; omega)).mono ?_; rintro e w6 ⟨rfl, rfl⟩; rw [Hce2.out.2])
                | (go_at_call 8; refine (pawake_any _ HM3.out.1.tab).mono ?_; rintro e w7 ⟨rfl, hg7⟩; have H7 := Lib.hid hg7; clear hg7))
              go_ret
              exact ⟨rfl, Grew.trans HM3.out.1.grew H7.out⟩

end Go.Proofs.YtenmilemdkhijaaDoor
