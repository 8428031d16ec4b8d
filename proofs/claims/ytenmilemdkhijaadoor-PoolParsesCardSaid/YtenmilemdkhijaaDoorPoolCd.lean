/- PoolParses. -/
import Derived.Test.YtenmilemdkhijaaDoorPoolCc
import Derived.Deep.RegionWith
namespace Go.Proofs.YtenmilemdkhijaaDoor
open Go.RowKit

set_option maxRecDepth 100000 in
set_option maxHeartbeats 1600000 in
theorem parses_out (n : Int) (l : List Pop) (m : Nat) (A B : Option Addr) (c cb : Nat) (w : World) (hT : TabAt 0 tab w) (hl : (l.length : Int) ≤ 9223372036854775807) (hm : (m : Int) ≤ 9223372036854775807) (h : n < 0 ∨ 300 < n ∨ 200 < l.length ∨ 100 < m) :
    Calls Tryd.prog 7 #[.int .i64 n, .slice A l.length c, .slice B m cb] w fun e w' => e = .returned (.bool true) ∧ Grew w w' := by
  have HT := Lib.hid hT
  clear hT
  by_cases h1 : n < 0
  · clear h
    go_enter Tryd.func7, Tryd.ntmps7
    go_wp2_with (go_at_call 8; refine (pawake_any _ HT.out).mono ?_; rintro e w2 ⟨rfl, hg2⟩)
    go_ret
    exact ⟨rfl, hg2⟩
  have h1' : 0 ≤ n := by omega
  by_cases h2 : 300 < n
  · clear h h1
    go_enter Tryd.func7, Tryd.ntmps7
    go_wp2_with (go_at_call 8; refine (pawake_any _ HT.out).mono ?_; rintro e w2 ⟨rfl, hg2⟩)
    go_ret
    exact ⟨rfl, hg2⟩
  have h2' : n ≤ 300 := by omega
  by_cases h3 : 200 < l.length
  · clear h h1 h2
    go_enter Tryd.func7, Tryd.ntmps7
    go_wp2_with (go_at_call 8; refine (pawake_any _ HT.out).mono ?_; rintro e w2 ⟨rfl, hg2⟩)
    go_ret
    exact ⟨rfl, hg2⟩
  · have h3' : l.length ≤ 200 := by omega
    have h4 : 100 < m := by omega
    clear h h1 h2 h3
    go_enter Tryd.func7, Tryd.ntmps7
    go_wp2_with (go_at_call 8; refine (pawake_any _ HT.out).mono ?_; rintro e w2 ⟨rfl, hg2⟩)
    go_ret
    exact ⟨rfl, hg2⟩

set_option maxRecDepth 100000 in
set_option maxHeartbeats 12800000 in
theorem parses_in (n : Nat) (l : List Pop) (A0 : Option Addr) (c0' : Nat) (m : Nat) (B : Option Addr) (cb : Nat) (f : Nat → Bool) (w : World) (hT : TabAt 0 tab w) (hs : Sl w 2 A0 l.length (l.flatMap Pop.vals)) (hb : Sl w 1 B m (brow f m)) (hn : n ≤ 300) (hl : l.length ≤ 200) (hm : m ≤ 100) :
    Calls Tryd.prog 7 #[.int .i64 n, .slice A0 l.length c0', .slice B m cb] w fun e w' => e = .returned (.bool true) ∧ Grew w w' := by
  obtain ⟨i0, hi0, hz0, hz1, hz2⟩ := info_parts boolInfo
  have Hs := Lib.hid (And.intro hs (And.intro hT hb))
  clear hs hT hb
  have t1 : (0 : Int) ≤ (n : Int) := by omega
  have t2 : (n : Int) ≤ 300 := by omega
  have t3 : (l.length : Int) ≤ 200 := by omega
  have t4 : (m : Int) ≤ 100 := by omega
  go_enter Tryd.func7, Tryd.ntmps7
  go_wp2_with fail
  refine (played_any n l A0 c0' w Hs.out.2.1 hn hl Hs.out.1).mono ?_
  rintro e w1 ⟨A, c, Ax, cx, rfl, hps, hyl⟩
  obtain ⟨y, hy⟩ : ∃ y, l.foldl stpL (full n) = y := ⟨_, rfl⟩
  rw [hy] at hps hyl
  have HP := Lib.hid hps
  have hyl2 := hyl
  subst hyl2
  clear hy hps hyl
  have hlen : y.length ≤ 65536 := by omega
  obtain ⟨b, hb⟩ : ∃ b, w.heap.size = b := ⟨_, rfl⟩
  rw [hb] at HP ⊢
  have Hb := Lib.hid hb
  clear hb
  go_wp2_with fail
  refine (pbytes_any b y A c _ HP.out.p.p HP.out.p.tab hlen).mono ?_
  rintro e w2 ⟨B2, cB2, rfl, hB2, hg2⟩
  have HB2 := Lib.hid hB2
  have HP2 := Lib.hid (HP.out.on hg2)
  clear hB2 hg2 HP
  go_wp2_with fail
  have hnb : nb y ≤ 100 := by unfold nb; omega
  refine pparse_any y.length (fun j => y.getD j false) (nb y) B2 cB2 w2 hn hnb rfl (by have := Sl.of_own HB2.out; rw [bts_eq] at this; exact this) HP2.out.p.tab _ (fun i w' h1 h2 h3 _ => ?_) (fun hno e w3 h => ?_)
  · exfalso
    rw [List.getD_eq_getElem?_getD, List.getElem?_eq_none h1] at h3
    cases h3
  obtain ⟨b3, A3, c3, rfl, hp3, hg3, hn3⟩ := h
  rw [ofBits_self] at hp3
  have HP3 := Lib.hid (HP2.out.on hg3)
  have HQ3 := Lib.hid hp3
  clear hp3 hg3 hn3 hno HP2
  go_wp2_with fail
  refine (pcopy_any b y A c _ HP3.out.p.p hlen).mono ?_
  rintro e w4 ⟨b4, A4, c4, rfl, hp4, hg4, hn4⟩
  have HP4 := Lib.hid (HP3.out.on hg4)
  have HQ4 := Lib.hid (HQ3.out.grew hg4)
  have HC4 := Lib.hid (show PM w3 w4 b4 y A4 c4 from ⟨hp4, hg4, hn4, HP3.out.p.tab⟩)
  clear hp4 hg4 hn4
  have HE4 := Lib.hid (pequal_any b3 b y y A3 A c3 c w4 HQ4.out HP4.out.p.p hlen rfl)
  go_wp2_with fail
  refine HE4.out.mono ?_
  rw [sameB_self]
  rintro e w5 ⟨rfl, hg5⟩
  have HP5 := Lib.hid (HP4.out.on hg5)
  have HC5 := Lib.hid (HC4.out.on hg5)
  clear hg5
  have HE5 := Lib.hid (pequal_any b4 b y y A4 A c4 c w5 HC5.out.p HP5.out.p.p hlen rfl)
  go_wp2_with fail
  refine HE5.out.mono ?_
  rw [sameB_self]
  rintro e w6 ⟨rfl, hg6⟩
  have HP6 := Lib.hid (HP5.out.on hg6)
  have HC6 := Lib.hid (HC5.out.on hg6)
  clear hg6 HE4 HE5 HP4 HP5 HC4 HC5
  have hsz6 := HC6.out.grew.size
  obtain ⟨vA, w7, hrun7, hown7, hgr7⟩ := append_sl (P := Tryd.prog) (w := w6.alloc (.cells #[] 4)) (base := w6.heap.size) (t := 29) (ty := 29) (e := 4) (v := .slice (some ⟨w6.heap.size, 0, none⟩) 0 0) (n := 0) (xs := []) Tryd.underlying29 hi0 hz0 hz1 hz2 rfl (by omega)
    (World.ownsRow_lit w6 #[] 0 (Nat.le_refl _) (by simp [maxLen]) (by simp)) (A := Ax) (m := y.length) (c := cx) (HP6.out.sl.grew ((Chg.refl NoF _).alloc _)) (fun h => by subst h; exact (own_none HP6.out.row).2) (fun u hu => by obtain ⟨q, -, rfl⟩ := List.mem_map.1 hu; rfl) (by simp only [maxLen]; omega) (by omega) (by simp)
  have hg7 : Grew w6 w7 := ((Chg.refl NoF w6).alloc _).grown hgr7 (fun k hk hlt => by simp [Value.ownBlock] at hk; omega)
  obtain ⟨Ay, cy, rfl, -⟩ := own_shape hown7
  simp only [Nat.zero_add, List.nil_append] at hown7 hrun7
  have HP7 := Lib.hid (HP6.out.on hg7)
  have HC7 := Lib.hid (show PS w3 w7 b4 y y A4 c4 Ay cy from ⟨HC6.out.on hg7, own_base hown7 hsz6, fun a ha hf => by
    subst ha
    obtain ⟨g, rfl, hge⟩ := own_new hown7
    have := HC6.out.p.lt _ hf
    simp only [] at this
    omega⟩)
  have HR7 := Lib.hid hrun7
  clear hown7 hrun7 hgr7 hg7 HP6 HC6 hsz6
  go_wp2_with (at_builtin; refine wpList_append_run rfl _ _ _ rfl rfl rfl HR7.out ?_)
  have hst := pstep_any ⟨1, 0⟩ w3 w7 b4 c4 cy y A4 Ay HC7.out hlen
  refine hst.mono ?_
  rintro e w8 ⟨rfl, hs8⟩
  have hg38 := hs8.p.grew
  obtain ⟨y2, hy2⟩ : ∃ y2, stpL y ⟨1, 0⟩ = y2 := ⟨_, rfl⟩
  have hse := stpL_take_same y ⟨1, 0⟩ rfl
  have hyl2 := stpL_len y ⟨1, 0⟩
  rw [hy2] at hs8 hse hyl2
  have HP8 := Lib.hid (HP3.out.on hg38)
  have HC8 := Lib.hid hs8
  have HY2 := Lib.hid (And.intro hse hyl2)
  clear hst hs8 hg38 hy2 hse hyl2 HP7 HC7 HR7
  have HS1 := Lib.hid (psame_any b y A Ax c cx w8 HP8.out.p.p HP8.out.sl HP8.out.p.tab hlen)
  go_wp2_with fail
  refine HS1.out.mono ?_
  rintro e w9 ⟨rfl, hg9⟩
  have HP9 := Lib.hid (HP8.out.on hg9)
  have HC9 := Lib.hid (HC8.out.on hg9)
  clear hg9
  have HS2 := Lib.hid (by have := psame_any b4 y2 A4 Ay c4 cy w9 HC9.out.p.p HC9.out.sl HC9.out.p.tab (by rw [HY2.out.2]; exact hlen); rw [HY2.out.2] at this; exact this)
  go_wp2_with fail
  refine HS2.out.mono ?_
  rintro e w10 ⟨rfl, hg10⟩
  have HP10 := Lib.hid (HP9.out.on hg10)
  have HC10 := Lib.hid (HC9.out.on hg10)
  clear hg10
  have HE10 := Lib.hid (by have := pequal_any b4 b y2 y A4 A c4 c w10 HC10.out.p.p HP10.out.p.p (by rw [HY2.out.2]; exact hlen) HY2.out.2; rw [HY2.out.1] at this; exact this)
  go_wp2_with fail
  refine HE10.out.mono ?_
  rintro e w11 ⟨rfl, hg11⟩
  have HP11 := Lib.hid (HP10.out.on hg11)
  clear hg11 HP8 HP9 HP10 HC8 HC9 HC10 HS1 HS2 HE10
  have hF := pfree_any b y A c w11 HP11.out.p.p hlen
  obtain ⟨cn, hcn⟩ : ∃ cn, cnt y = cn := ⟨_, rfl⟩
  rw [hcn]
  rw [hcn] at hF
  have HF := Lib.hid hF
  clear hF hcn
  have hcc : (cn = 0) = ((cn : Int) = 0) := by apply propext; omega
  rw [show decide (cn = 0) = ((cn : Int) == 0) by rw [Bool.eq_iff_iff]; simp]
  clear hcc
  obtain ⟨z0, hz0'⟩ : ∃ z : Bool, ((cn : Int) == 0) = z := ⟨_, rfl⟩
  rw [hz0']
  go_wp2_with fail
  refine HF.out.mono ?_
  rintro e w11' ⟨rfl, rfl⟩
  go_wp2_with fail
  have HSB := Lib.hid (Hs.out.2.2.grew HP11.out.p.grew)
  refine pparse_all y.length f m B cb w11 hn hm HSB.out HP11.out.p.tab _ (fun w12 hbad hg12 => ?_) (fun hm8 hno e w12 h => ?_)
  · have HB := Lib.hid hbad
    have HP12 := Lib.hid (HP11.out.on hg12)
    have HSB2 := Lib.hid (HSB.out.grew hg12)
    clear hbad hg12 HP11 HSB
    obtain ⟨v0, hv0⟩ : ∃ v0, ((m : Int) != ((y.length : Int) + 7) / 8) = v0 := ⟨_, rfl⟩
    have hv1 : ((m : Int) != (((y.length + 7) / 8 : Nat) : Int)) = v0 := by
      rw [show (((y.length + 7) / 8 : Nat) : Int) = ((y.length : Int) + 7) / 8 by omega]; exact hv0
    have HW := Lib.hid (show wantB f y.length v0 (8 * m) = true by
      rcases HB.out with h | ⟨i, h1, h2, h3⟩
      · refine wantB_true (i := 0) (.inl ?_)
        rw [← hv1]
        simpa using fun e => h (Int.ofNat.inj e)
      · exact wantB_true (.inr ⟨h1, h2, h3⟩))
    go_wp2_with fail
    clear hv0 hv1
    go_loop [15, 116] (fun v i => ∃ (k : Nat) (q : Bool), k ≤ 8 * m ∧ i = .int .i64 k ∧ v = .bool q ∧ q = wantB f y.length v0 k) (fun _ i => 8 * m - (intOf i).toNat)
    case atStart => exact ⟨0, _, by omega, rfl, rfl, (wantB_zero _ _ _).symm⟩
    case round =>
      obtain ⟨k, q, hk, rfl, rfl, hq⟩ := hrel
      have HQ := Lib.hid hq
      clear hq
      have hws := wantB_succ f y.length v0 k
      rw [← HQ.out] at hws
      have HWS := Lib.hid hws
      clear hws
      by_cases hlt : k < 8 * m
      · obtain ⟨g, off, rfl, hg, d0⟩ := brow_cell HSB2.out (show k / 8 < m by omega)
        have u1 : (0 : Int) ≤ ((k / 8 : Nat) : Int) := by omega
        have u2 : decide ((k : Int) < (m : Int) * 8) = true := decide_eq_true (by omega)
        have key := has8_eq (f := f) (i := k)
        cases q with
        | true =>
          go_wp2_with fail
          exact ⟨⟨k + 1, true, by omega, by simp, rfl, by rw [HWS.out]; rfl⟩, by simp [intOf]; omega⟩
        | false =>
          by_cases hkn : y.length ≤ k
          · cases hf : f k with
            | true =>
              rw [hf] at key
              go_wp2_with fail
              exact ⟨⟨k + 1, true, by omega, by simp, rfl, by rw [HWS.out, hf]; simp [hkn]⟩, by simp [intOf]; omega⟩
            | false =>
              rw [hf] at key
              go_wp2_with fail
              exact ⟨⟨k + 1, false, by omega, by simp, rfl, by rw [HWS.out, hf]; simp⟩, by simp [intOf]; omega⟩
          · go_wp2_with fail
            exact ⟨⟨k + 1, false, by omega, by simp, rfl, by rw [HWS.out]; simp [hkn]⟩, by simp [intOf]; omega⟩
      · obtain rfl : k = 8 * m := by omega
        have u2 : decide (8 * (m : Int) < (m : Int) * 8) = false := decide_eq_false (by omega)
        have hqt := HQ.out.trans HW.out
        subst hqt
        go_wp2_with (go_at_call 8; refine (pawake_any _ HP12.out.p.tab).mono ?_; rintro e w13 ⟨rfl, hg13⟩)
        go_ret
        exact ⟨rfl, Grew.trans HP12.out.p.grew hg13⟩
  · obtain ⟨b5, A5, c5, rfl, hp5, hg5, hn5⟩ := h
    have HP5 := Lib.hid hp5
    have HP12 := Lib.hid (HP11.out.on hg5)
    have HSB2 := Lib.hid (HSB.out.grew hg5)
    obtain ⟨z, hz⟩ : ∃ z, ofBits f y.length = z := ⟨_, rfl⟩
    have hbn := bnum_ofBits hm8 hno
    have hzl := ofBits_len f y.length
    rw [hz] at HP5 hbn hzl
    have HZ := Lib.hid (And.intro hbn (And.intro hzl (show nb z = m by unfold nb; rw [hzl, hm8])))
    have hcvb := fun (W : World) (hg : Grew w12 W) => conv_sl (c := cb) (HSB2.out.grew hg)
    have HCB := Lib.hid hcvb
    have HM8 := Lib.hid hm8
    clear hp5 hg5 hn5 hz hbn hzl hno HP11 HSB hcvb hm8
    have HL := Lib.hid (by have := fun W h => plen_any b5 z A5 c5 W (HP5.out.grew h); rw [HZ.out.2.1] at this; exact this)
    have HBy := Lib.hid (fun W (h : Grew w12 W) => pbytes_any b5 z A5 c5 W (HP5.out.grew h) (tab_chg HP12.out.p.tab h id) (by rw [HZ.out.2.1]; exact hlen))
    have hcv0 := HCB.out w12.drew ((Chg.refl NoF w12).drew)
    go_wp2_with fail
    go_region_with (first
      | (go_at_call 25; refine (HL.out _ ((Chg.refl _ _).drew)).mono ?_; rintro e w13 ⟨rfl, rfl⟩)
      | (go_at_call 22; refine (HBy.out _ ((Chg.refl _ _).drew)).mono ?_; rintro e w14 ⟨C, cc, rfl, hC, hg14⟩; have hcv := (conv_any hC).trans (congrArg (fun s => Result.ok (Value.string (strOfNums s)) w14) (show bnum z (nb z) = fnum f m by rw [HZ.out.2.2, HZ.out.1])); have hcv2 := HCB.out _ (Grew.trans ((Chg.refl NoF w12).drew) hg14); have HG14 := Lib.hid (Grew.trans ((Chg.refl NoF w12).drew) hg14); clear hC hg14)
      | (go_at_call 8; refine (pawake_any _ (tab_chg HP12.out.p.tab HG14.out id)).mono ?_; rintro e w15 ⟨rfl, hg15⟩; have HG15 := Lib.hid (Grew.trans HG14.out hg15); clear hg15))
    all_goals
      go_wp2_with fail
      go_ret
      exact ⟨rfl, Grew.trans HP12.out.p.grew HG15.out⟩

end Go.Proofs.YtenmilemdkhijaaDoor
