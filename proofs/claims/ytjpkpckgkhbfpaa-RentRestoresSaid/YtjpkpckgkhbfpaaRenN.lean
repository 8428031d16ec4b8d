/- The law's step: Pay, Drop, and any. -/
import Derived.Test.YtjpkpckgkhbfpaaRenM
namespace Go.Proofs.Ytjpkpckgkhbfpaa
open Go.RowKit Go.Maps

set_option maxRecDepth 100000 in
set_option maxHeartbeats 1600000 in
theorem rstep_pay (o : Rop) (w : Bs) (W : World) (b k : Nat) (x : List Rw) (A : Option Addr) (c : Nat) (h : SR w W b x x k A) (hk : k ≤ 900000) (ho : o.ok) (h1 : o.kind = 2) :
    Calls Try.prog 14 #[.pointer (some ⟨b, 0, none⟩), .slice A x.length c, (.agg #[.int .i64 o.kind, .int .i64 o.house, .int .i64 o.n, .int .i64 o.now])] W fun e w' => StepTo w w' b (stepL x o) (k + 1) e := by
  have hv : stepL x o = (payL x o.house o.n o.now).1 := by unfold stepL; rw [if_neg (by omega), if_pos h1]
  rw [hv]
  have t1 : (o.kind == 1) = false := beq_eq_false_iff_ne.2 (by omega)
  have t2 : (o.kind == 2) = true := by simp [h1]
  have hh : (Lit.int .i64 o.house).wf = true := wf64 ho.2.2.1 ho.2.2.2.1
  obtain ⟨y, ey⟩ : ∃ y, payL x o.house o.n o.now = y := ⟨_, rfl⟩
  rw [ey]
  have H := Lib.hid h
  have hl : x.length ≤ 1000000 := by have := h.len; omega
  have hfit := h.fits
  by_cases h0 : y.2 = 0
  · have Hx := Lib.hid (fun (W : World) A c hs => xpay_new x o.house o.n o.now A c W hs hl hfit (by rw [ey]; exact h0))
    have Hr := Lib.hid (fun F W hs => rpay_any b F x k o.house o.n o.now W hs hk hh)
    rw [ey] at Hx Hr
    rw [h0] at Hr
    clear hv h1 h ho hh ey h0 hfit
    go_enter Try.func14, Try.ntmps14
    go_wp2_with (first
      | (go_at_call 32; refine (Hx.out _ A c (H.out.on ((Chg.refl _ _).alloc _)).sl).mono ?_; rintro e w1 ⟨A1, c1, rfl, hs1, hg1, hn1⟩; have H1 := Lib.hid ((H.out.on ((Chg.refl _ _).alloc _)).list hg1 hs1 hn1); have d0 := fun i => hg1.cell (p := ⟨W.heap.size, i, none⟩) (by simp) id; have z0 : W.heap.size < w1.heap.size := (by have := hg1.size; simp at this; omega); clear hs1 hg1 hn1)
      | (go_at_call 12; obtain ⟨F, hrs, nx⟩ := H1.out.at; refine (Hr.out F _ hrs).mono ?_; rintro e w2 ⟨rfl, ht2⟩; have H2 := Lib.hid (nx _ _ _ ht2); clear ht2 nx hrs))
    go_ret2
    exact StepTo.mk A1 c1 rfl (H2.out.more (by omega))
  · have Hx := Lib.hid (fun (W : World) A c hs => xpay_same x o.house o.n o.now A c W hs hl hfit (by rw [ey]; exact h0))
    have Hr := Lib.hid (fun F W hs => rpay_any b F x k o.house o.n o.now W hs hk hh)
    have hy : y.1 = x := by rw [← ey]; exact payL_same (by rw [ey]; exact h0)
    rw [ey] at Hx Hr
    rw [hy] at Hx Hr ⊢
    clear hv h1 h ho hh ey h0 hy hfit
    have t2 : (y.2 == y.2) = true := by simp
    go_enter Try.func14, Try.ntmps14
    go_wp2_with (first
      | (go_at_call 32; refine (Hx.out _ A c (H.out.on ((Chg.refl _ _).alloc _)).sl).mono ?_; rintro e w1 ⟨rfl, hg1⟩; have H1 := Lib.hid ((H.out.on ((Chg.refl _ _).alloc _)).on hg1); have d0 := fun i => hg1.cell (p := ⟨W.heap.size, i, none⟩) (by simp) id; have z0 : W.heap.size < w1.heap.size := (by have := hg1.size; simp at this; omega); clear hg1)
      | (go_at_call 12; obtain ⟨F, hrs, nx⟩ := H1.out.at; refine (Hr.out F _ hrs).mono ?_; rintro e w2 ⟨rfl, ht2⟩; have H2 := Lib.hid (nx _ _ _ ht2); clear ht2 nx hrs))
    go_ret2
    exact StepTo.mk A c rfl (H2.out.more (by omega))

set_option maxRecDepth 100000 in
set_option maxHeartbeats 1600000 in
theorem rstep_drop (o : Rop) (w : Bs) (W : World) (b k : Nat) (x : List Rw) (A : Option Addr) (c : Nat) (h : SR w W b x x k A) (hk : k ≤ 900000) (ho : o.ok) (h1 : o.kind = 3) :
    Calls Try.prog 14 #[.pointer (some ⟨b, 0, none⟩), .slice A x.length c, (.agg #[.int .i64 o.kind, .int .i64 o.house, .int .i64 o.n, .int .i64 o.now])] W fun e w' => StepTo w w' b (stepL x o) (k + 1) e := by
  have hv : stepL x o = dropL x o.house := by unfold stepL; rw [if_neg (by omega), if_neg (by omega), if_pos h1]
  rw [hv]
  have t1 : (o.kind == 1) = false := beq_eq_false_iff_ne.2 (by omega)
  have t2 : (o.kind == 2) = false := beq_eq_false_iff_ne.2 (by omega)
  have t3 : (o.kind == 3) = true := by simp [h1]
  have hh : (Lit.int .i64 o.house).wf = true := wf64 ho.2.2.1 ho.2.2.2.1
  have H := Lib.hid h
  have hl : x.length ≤ 1000000 := by have := h.len; omega
  cases hf : fnd x o.house with
  | none =>
    have Hf := Lib.hid (And.intro hf (And.intro hh (fnd_idx_none hf)))
    rw [dropL_none hf]
    clear hv h1 h ho hh hf
    go_enter Try.func14, Try.ntmps14
    go_wp2_with (first
      | (go_at_call 33; obtain ⟨F, hrs⟩ := (H.out.on ((Chg.refl _ _).alloc (.cells #[.int .i64 o.kind, .int .i64 o.house, .int .i64 o.n, .int .i64 o.now] 36))).rs; refine (rdrop_none b F x k o.house _ hrs Hf.out.2.1 Hf.out.1).mono ?_; rintro e w2 ⟨rfl, rfl⟩)
      | (go_at_call 16; refine (xfind_any o.house x A c _ (H.out.on ((Chg.refl _ _).alloc _)).sl hl).mono ?_; rintro e w1 ⟨rfl, rfl⟩; rw [Hf.out.2.2]))
    go_ret2
    exact StepTo.mk A c rfl ((H.out.on (by (repeat (first | (with_reducible exact (Chg.refl _ _)) | (with_reducible refine Chg.alloc ?_ _) | (with_reducible refine Chg.drew ?_) | (with_reducible refine Chg.drewN ?_ _) | ((with_reducible refine Chg.setCell ?_ ?hp _); (case hp => (intro h; exfalso; simp at h; try omega))))))).more (by omega))
  | some r =>
    obtain ⟨j, hj, hat⟩ := fnd_idx_some hf
    have Hf := Lib.hid (And.intro hf (And.intro hh hj))
    have t4 : decide ((j : Int) < 0) = false := decide_eq_false (by omega)
    clear hv h1 h ho hh hf hj hat
    go_enter Try.func14, Try.ntmps14
    go_wp2_with (first
      | (go_at_call 33; obtain ⟨F, hrs, nx⟩ := H.out.at; have hlt := hrs.lt; refine (rdrop_some b F x k o.house r _ (hrs.grew ((Chg.refl _ _).alloc _)) hk Hf.out.2.1 Hf.out.1).mono ?_; rintro e w2 ⟨rfl, ht2⟩; have H2 := Lib.hid (nx _ _ _ (ht2.ahead ((Chg.refl _ _).alloc _))); have d0 := (fun i => ht2.chg.cell (p := ⟨W.heap.size, i, none⟩) (by simp) (fun hf => by have := hlt _ hf; simp at this)); have z0 : W.heap.size < w2.heap.size := (by have := ht2.chg.size; simp at this; omega); clear ht2 nx hrs hlt)
      | (go_at_call 16; refine (xfind_any o.house x A c _ H2.out.sl hl).mono ?_; rintro e w1 ⟨rfl, rfl⟩; rw [Hf.out.2.2])
      | (go_at_call 22; refine (xdrop_any o.house x A c _ H2.out.sl hl).mono ?_; rintro e w3 ⟨A3, c3, rfl, hs3, hg3, hn3⟩; have H3 := Lib.hid (H2.out.list hg3 hs3 hn3); clear hs3 hg3 hn3))
    go_ret2
    exact StepTo.mk A3 c3 rfl (H3.out.more (by omega))

theorem rstep_any (o : Rop) (w : Bs) (W : World) (b k : Nat) (x : List Rw) (A : Option Addr) (c : Nat) (h : SR w W b x x k A) (hk : k ≤ 900000) (ho : o.ok) :
    Calls Try.prog 14 #[.pointer (some ⟨b, 0, none⟩), .slice A x.length c, (.agg #[.int .i64 o.kind, .int .i64 o.house, .int .i64 o.n, .int .i64 o.now])] W fun e w' => StepTo w w' b (stepL x o) (k + 1) e := by
  by_cases h1 : o.kind = 1
  · exact rstep_add o w W b k x A c h hk ho h1
  by_cases h2 : o.kind = 2
  · exact rstep_pay o w W b k x A c h hk ho h2
  by_cases h3 : o.kind = 3
  · exact rstep_drop o w W b k x A c h hk ho h3
  · exact rstep_other o w W b k x A c h h1 h2 h3

end Go.Proofs.Ytjpkpckgkhbfpaa
