/- The pool: the walk of its Bytes. -/
import Derived.Test.YtenmilemdkhijaaDoorPoolT
namespace Go.Proofs.YtenmilemdkhijaaDoor
open Go.RowKit
attribute [local go_sem] Oper.semAt_some

theorem round_in {l id : Nat} {r : Loop} {R : Ending → World → Prop} {a : Act} {w : World} (h1 : Rec w l (Loop.at_ r .busy none)) (h2 : ∀ w', Kept l w w' → Rec w' l (Loop.at_ r .ready none) → R (.returned (.bool true)) w') :
    Exit.inBlock id (roundEnd l r R) .normal a w := ⟨h1, h2⟩

set_option maxRecDepth 100000 in
set_option maxHeartbeats 3200000 in
theorem pbytes_any (b : Nat) (x : List Bool) (A : Option Addr) (c : Nat) (w : World) (h : PIn w b x A c) (hT : TabAt 0 tab w) (hl : x.length ≤ 65536) :
    Calls Tryd.prog 22 #[.pointer (some ⟨b, 0, none⟩)] w fun e w' => OwnOut w w' 5 1 (nb x) (bts x (nb x)) (fun A c => .slice A (nb x) c) e := by
  obtain ⟨i0, hi0, hz0, hz1, hz2⟩ := info_parts byteInfo
  have hnb : nb x = (x.length + 7) / 8 := rfl
  obtain ⟨w3, hr3, hown3, hg3⟩ := run_make_full (P := Tryd.prog) w w.heap.size 52 5 i0 (.int .u8 0) 1 Tryd.underlying52 hi0 hz0 hz1 .i64 .i64 (nb x) (by rw [hz2]; omega) (by simp only [maxLen]; omega) (Nat.le_refl _)
  have hrow : YRow w3 w.heap.size w.heap.size (nb x) (low x 0) := by
    unfold YRow
    rw [low_zero]
    have := hown3
    rw [show (Value.int .u8 0).cells = #[.int .u8 0] from rfl, Nat.mul_one, toList_madeCells_one] at this
    exact this
  have hG3 : Grew w w3 := (Chg.refl NoF w).grown hg3 (fun j hj _ => by cases hj)
  obtain ⟨g, hg⟩ : ∃ g, w.heap.size = g := ⟨_, rfl⟩
  rw [hg] at hr3 hrow
  obtain ⟨W4, hW4⟩ : ∃ W4, w3.alloc (.cells #[.slice (some ⟨g, 0, none⟩) (nb x) (nb x)] 52) = W4 := ⟨_, rfl⟩
  have HG4 := Lib.hid (show Grew w W4 from hW4 ▸ hG3.alloc _)
  have HO4 := Lib.hid (show Blk W4 w3.heap.size 52 #[.slice (some ⟨g, 0, none⟩) (nb x) (nb x)] from hW4 ▸ Blk.new _ _ _)
  have HR4 := Lib.hid (hrow.chg (show Grew w3 W4 from hW4 ▸ (Chg.refl _ _).alloc _) id)
  have hg3s : g < w3.heap.size := (own_row hrow).choose_spec.2.1 |> fun h => (Array.getElem?_eq_some_iff.1 h).1
  have HW4 := Lib.hid hW4
  have Hg := Lib.hid hg
  have H := Lib.hid (And.intro h hT)
  obtain ⟨c0, f0, s0⟩ := h.blk.facts
  have hq : ((x.length : Int) + 7) / 8 = ((nb x : Nat) : Int) := by omega
  rw [← hq] at hr3
  clear hown3 hg3 hrow hG3 hW4 hg h hT hi0 hz0 hz1 hz2 hq hnb
  (refine calls_of_marks Tryd.func22 rfl ?_; simp only [Tryd.ntmps22, List.size_toArray, List.length_cons, List.length_nil, Nat.reduceAdd, Nat.reduceSub, Array.replicate_succ, Array.replicate_zero, List.push_toArray, List.append_toArray, List.nil_append, List.cons_append])
  go_wp2_with (rw [HW4.out])
  obtain ⟨W6, hW6⟩ : ∃ W6, W4.alloc (.cells #[.pointer (some ⟨b, 0, none⟩)] 24) = W6 := ⟨_, rfl⟩
  go_wp2_with (go_at_call 16; refine (all_any b _ W6 hW6).mono ?_; rintro e w5 ⟨rfl, rfl⟩)
  have HG6 := Lib.hid (show Grew W4 W6 from hW6 ▸ (Chg.refl _ _).alloc _)
  have B6p := Lib.hid (show Blk W6 W4.heap.size 24 #[.pointer (some ⟨b, 0, none⟩)] from hW6 ▸ Blk.new _ _ _)
  have hz3 := HO4.out.lt
  have hgw := Hg.out
  clear hW6 c0 f0 s0
  refine wp_range (gf := 31) (lb := #[.pointer (some ⟨W4.heap.size, 0, none⟩)]) rfl (enters_of Tryd.func31 (by kernel_rfl) rfl) ?_
  intro r Wr D L hr hg1 hDl hLl hD hR
  have HR1 := Lib.hid hr
  have hDL := Ne.symm (hR.ne_dfr hD)
  have hz6 := B6p.out.lt
  have hz7 := hg1.size
  have hL2 := hR.lt
  have hD2 := hD.lt
  have HG1 := Lib.hid (Grew.trans HG6.out hg1)
  have HBp := Lib.hid (B6p.out.grew hg1)
  have HBO := Lib.hid (HO4.out.grew HG1.out)
  have HGa := Lib.hid (Grew.trans HG4.out HG1.out)
  have HPr := Lib.hid (H.out.1.grew HGa.out)
  have HTr := Lib.hid (tab_chg H.out.2 HGa.out id)
  have HJ0 := Lib.hid (show BytJ Wr Wr g L x 0 r .ready none from ⟨Chg.refl _ _, HR4.out.chg HG1.out id, hR⟩)
  have HDf := Lib.hid hD
  have hPF := fun j (h : PF b A j) => H.out.1.lt j h
  have HPF := Lib.hid hPF
  have htp := tab_pos H.out.2
  clear hr hg1 hD hR hPF
  refine (all_iter W4.heap.size b L x A c (fun i W => BytJ Wr W g L x i r .ready none) (fun _ _ => False) Wr hl
    (fun i W hJ => ⟨HBp.out.chg hJ.chg ?h1, HPr.out.chg hJ.chg ?h2, tab_chg HTr.out hJ.chg ?h3⟩)
    (fun i j W hJ hx => ?yld) HJ0.out).mono ?post
  case h1 => rintro (q | q) <;> omega
  case h2 => intro k hk; have := HPF.out k hk; rintro (q | q) <;> omega
  case h3 => rintro (q | q) <;> omega
  case yld =>
    have HX := Lib.hid hx
    have HJ := Lib.hid hJ
    have hws := hJ.chg.size
    have hjl := (nxt_some.1 hx).2.1
    clear hx hJ
    obtain ⟨hr1, hr2, hr3', hr4⟩ := HR1.out
    refine yield_wide HJ.out.rc (by rw [hr2]; rfl) ?_
    rw [hr1, hr2, hr3', hr4]
    clear hr1 hr2 hr3' hr4 hr3
    intro K hK
    have HKK := Lib.hid hK
    clear hK
    gi_wp2
    refine HKK.out _ _ HJ.out.rc fun W5 Q hk3 hR2 hQ => ?_
    refine Code.wpIn_mono hQ ?_
    have HJ5 := Lib.hid (HJ.out.kept hk3 hR2)
    have hkw5 := hk3.chg.size
    clear hk3 hR2 hQ Q
    have HBO5 := Lib.hid (HBO.out.chg HJ5.out.chg (by rintro (e | e) <;> omega))
    obtain ⟨c1, f1, s1⟩ := HBO5.out.facts
    have hjb : j / 8 < nb x := by show j / 8 < (x.length + 7) / 8; omega
    obtain ⟨d0, f0, s0⟩ := HJ5.out.row.at hjb
    have t1 : (0 : Int) ≤ (j : Int) := by omega
    have e1 : bits BinOp.or IntKind.u8 ((btf (low x i) (j / 8) : Nat) : Int) (IntKind.u8.wrap (2 ^ (j % 8))) = ((btf (low x i) (j / 8) ||| 2 ^ (j % 8) : Nat) : Int) := by
      have hp := pow_lt8 (s := j % 8) (by omega)
      rw [show (2 : Int) ^ (j % 8) = ((2 ^ (j % 8) : Nat) : Int) from (Int.natCast_pow 2 (j % 8)).symm]
      obtain ⟨P, hP⟩ : ∃ P, 2 ^ (j % 8) = P := ⟨_, rfl⟩
      rw [hP] at hp ⊢
      rw [show IntKind.u8.wrap ((P : Nat) : Int) = ((P : Nat) : Int) by rw [IntKind.wrap_u8]; omega, bits_or_u8_nat _ _ (btf_lt _ _) hp]
    have HE := Lib.hid e1
    clear e1
    gi_wp2
    have w1 : IntKind.i64.wrap ((j : Int) / 8) = (j : Int) / 8 := IntWalk.i64_in _ ⟨by omega, by omega⟩
    have w0 : (j : Int).tdiv 8 = (j : Int) / 8 := Int.tdiv_eq_ediv_of_nonneg (by omega)
    have w2 : IntKind.i64.wrap ((j : Int).tdiv 8) = (j : Int) / 8 := by rw [w0, w1]
    have v1 : IntKind.i64.wrap ((j : Int) % 8) = (j : Int) % 8 := IntWalk.i64_in _ ⟨by omega, by omega⟩
    have v0 : (j : Int).tmod 8 = (j : Int) % 8 := Int.tmod_eq_emod_of_nonneg (by omega)
    have v2 : IntKind.i64.wrap ((j : Int).tmod 8) = (j : Int) % 8 := by rw [v0, v1]
    have v3 : (0 : Int) ≤ (j : Int) % 8 := by omega
    have v4 : (j : Int) % 8 ≤ 64 := by omega
    have v5 : ((j : Int) % 8).toNat = j % 8 := by omega
    have t3 : (0 : Int) ≤ (j : Int) / 8 := by omega
    have t4 : (j : Int) / 8 < ((nb x : Nat) : Int) := by omega
    have v6 : ((j : Int) / 8).toNat = j / 8 := by omega
    refine wpIn_region_any (by kernel_rfl) (wpAnyIn_inRound (by kernel_rfl) _ _ _ _ ?_)
    change wpAnyIn _ _ _ _ _ _ _ _ _ (World.drew _)
    refine wpAnyIn_take (i := 1) (v := ?_) rfl rfl (by kernel_rfl) (by kernel_rfl) (by kernel_rfl) (fun _ _ _ h => h) ⟨Or.inl ⟨by rfl, ?_⟩, fun _ => rfl⟩ ?_
    rotate_left
    · intro w; go_simp <;> with_reducible rfl
    refine wpAnyIn_take (i := 2) (v := ?_) rfl rfl (by kernel_rfl) (by kernel_rfl) (by kernel_rfl) (fun _ _ _ h => h) ⟨Or.inl ⟨by rfl, ?_⟩, fun _ => rfl⟩ ?_
    rotate_left
    · intro w; go_simp <;> with_reducible rfl
    refine wpAnyIn_take (i := 5) (v := ?_) rfl rfl (by kernel_rfl) (by kernel_rfl) (by kernel_rfl) (fun _ _ _ h => h) ⟨Or.inl ⟨by rfl, ?_⟩, fun _ => rfl⟩ ?_
    rotate_left
    · intro w; go_simp <;> with_reducible rfl
    refine wpAnyIn_take (i := 6) (v := ?_) rfl rfl (by kernel_rfl) (by kernel_rfl) (by kernel_rfl) (fun _ _ _ h => h) ⟨Or.inl ⟨by rfl, ?_⟩, fun _ => rfl⟩ ?_
    rotate_left
    · intro w; go_simp <;> with_reducible rfl
    refine wpAnyIn_take (i := 7) (v := ?_) rfl rfl (by kernel_rfl) (by kernel_rfl) (by kernel_rfl) (fun _ _ _ h => h) ⟨Or.inl ⟨by rfl, ?_⟩, fun _ => rfl⟩ ?_
    rotate_left
    · intro w; go_simp <;> with_reducible rfl
    refine wpAnyIn_ready (rs := [0]) (by kernel_rfl) (by simp) ?_
    refine AllReadyIn.cons rfl (fun K hK => ?_) AllReadyIn.nil
    go_simp
    refine hK _ _ ?_
    clear hK K
    refine wpAnyIn_ready (rs := [3]) (by kernel_rfl) (by simp) ?_
    refine AllReadyIn.cons rfl (fun K hK => ?_) AllReadyIn.nil
    go_simp
    refine hK _ _ ?_
    clear hK K
    refine wpAnyIn_ready (rs := [4]) (by kernel_rfl) (by simp) ?_
    refine AllReadyIn.cons rfl (fun K hK => ?_) AllReadyIn.nil
    go_simp
    refine hK _ _ ?_
    clear hK K
    refine wpAnyIn_ready (rs := [8]) (by kernel_rfl) (by simp) ?_
    refine AllReadyIn.cons rfl (fun K hK => ?_) AllReadyIn.nil
    go_simp
    refine hK _ _ ?_
    clear hK K
    refine wpAnyIn_ready (rs := [9]) (by kernel_rfl) (by simp) ?_
    refine AllReadyIn.cons rfl (fun K hK => ?_) AllReadyIn.nil
    go_simp
    refine hK _ _ ?_
    clear hK K
    refine wpAnyIn_ready (rs := [10]) (by kernel_rfl) (by simp) ?_
    refine AllReadyIn.cons rfl (fun K hK => ?_) AllReadyIn.nil
    go_simp
    refine hK _ _ ?_
    clear hK K
    refine wpAnyIn_done (by kernel_rfl) ?_ _
    rw [HE.out]
    obtain ⟨W8, hW8⟩ : ∃ W8, (W5.setCell ⟨g, j / 8, none⟩ (.int .u8 ((btf (low x i) (j / 8) ||| 2 ^ (j % 8) : Nat) : Int))).drew = W8 := ⟨_, rfl⟩
    rw [hW8]
    have HJ8 := HJ5.out.next HX.out (by omega) hW8
    exact round_in (id := 1) HJ8.rc fun w' hk' hR' => .inl ⟨rfl, HJ8.kept hk' hR'⟩
  case post =>
    rintro e w3' ⟨hv, hJ⟩
    refine ⟨hv, ?_⟩
    rcases hJ with ⟨i, hJ, hno⟩ | ⟨i, hJ⟩
    rotate_left
    · exact hJ.elim
    refine .inl ⟨hJ.rc, fun w4 hk4 => ?_⟩
    have HC4 := Lib.hid (Chg.trans hJ.chg hk4.chg fun i _ e => .inr e)
    have HRw := Lib.hid (show YRow w4 g g (nb x) (low x i) from own_kept hJ.row hk4)
    have HNo := Lib.hid hno
    clear hJ hk4 hno hr3
    have HBO4 := Lib.hid (HBO.out.chg HC4.out (by rintro (e | e) <;> omega))
    have HD4 := Lib.hid (HDf.out.chg HC4.out (by rintro (e | e) <;> omega))
    have hcw4 := HC4.out.size
    have HGw := Lib.hid (show Grew w w4 from Chg.mono (Chg.trans (F := fun j => w.heap.size ≤ j) HGa.out.chg HC4.out fun i hi e => by rcases e with e | e <;> omega) fun i hi e => absurd e (by omega))
    obtain ⟨c1, f1, s1⟩ := HBO4.out.facts
    go_wp2_with fail
    refine postM_ret1 (v := .slice (some ⟨g, 0, none⟩) (nb x) (nb x)) (D := D) HD4.out rfl fun w5 hk5 => ⟨?_, ?_⟩
    · simp [results, Tryd.results22, go_sem]
    · refine OwnOut.mk (some ⟨g, 0, none⟩) (nb x) rfl ?_ (Chg.kept HGw.out hk5 (by omega))
      rw [Hg.out, ← low_end HNo.out]
      exact own_kept HRw.out hk5

end Go.Proofs.YtenmilemdkhijaaDoor
