/- The rent: Rows; the document's First. -/
import Derived.Test.YtjpkpckgkhbfpaaRenR
namespace Go.Proofs.Ytjpkpckgkhbfpaa
open Go.RowKit Go.Maps

theorem rcollect_any (bs R : Nat) (x : List Rw) (w : World) (hb : Blk w bs 59 #[.map (some R)]) (hm : IMap Try.prog 3 w R (rwm x) x.length) (hn : (x.map Rw.house).Nodup) (hl : x.length ≤ 1000000) :
    Calls Try.prog 59 #[.func (.func 61) #[] #[.pointer (some ⟨bs, 0, none⟩)]] w fun e w' => ∃ l : List Rw, l.Perm x ∧ OwnOut w w' 30 3 l.length (l.flatMap Rw.vals) (fun A c => .slice A l.length c) e := by
  have H := Lib.hid (And.intro hb (And.intro hm hn))
  clear hb hm hn
  go_enter Try.func59, Try.ntmps59
  go_wp2_with (go_at_call 70; refine (rappend_any bs R x _ H.out.1 H.out.2.1 H.out.2.2 hl).mono ?_; rintro e w1 ⟨l, hp, A1, c1, rfl, ho, hg⟩)
  go_ret
  exact ⟨l, hp, OwnOut.mk A1 c1 rfl ho hg⟩

theorem rsorted_any (bs R : Nat) (x : List Rw) (w : World) (hb : Blk w bs 59 #[.map (some R)]) (hm : IMap Try.prog 3 w R (rwm x) x.length) (hx : rising x) (hl : x.length ≤ 1000000) :
    Calls Try.prog 47 #[.func (.func 61) #[] #[.pointer (some ⟨bs, 0, none⟩)], .func (.func 49) #[] #[]] w fun e w' => OwnOut w w' 30 3 x.length (x.flatMap Rw.vals) (fun A c => .slice A x.length c) e := by
  have H := Lib.hid (And.intro hb (And.intro hm hx))
  clear hb hm hx
  go_enter Try.func47, Try.ntmps47
  go_wp2_with fail
  refine (rcollect_any bs R x _ H.out.1 H.out.2.1 H.out.2.2.nodup hl).mono ?_
  rintro e w1 ⟨l, hp, A1, c1, rfl, ho, hg⟩
  have HO := Lib.hid (And.intro ho (And.intro hg hp))
  have Hlen := Lib.hid hp.length_eq
  have hll : l.length ≤ 1000000 := by rw [hp.length_eq]; exact hl
  clear ho hg hp
  go_wp2_with fail
  rcases A1 with _ | a
  · obtain ⟨h0, rfl⟩ := own_none HO.out.1
    have hx0 : x = [] := List.eq_nil_of_length_eq_zero (by rw [← Hlen.out, h0])
    rw [h0]
    refine (rsort_nil w1 _).mono ?_
    rintro e w2 ⟨rfl, rfl⟩
    go_wp2_with fail
    go_ret
    rw [hx0]
    exact OwnOut.mk none 0 rfl (World.ownsRow_nil _ _ _ _) HO.out.2.1
  · obtain ⟨g, rfl, hge⟩ := own_new HO.out.1
    refine (rsort_any HO.out.1 H.out.2.2 HO.out.2.2 hll).mono ?_
    rintro e w2 ⟨rfl, ho2, hc2⟩
    have HO2 := Lib.hid (And.intro ho2 hc2)
    clear ho2 hc2
    go_wp2_with fail
    go_ret
    have ho2 := HO2.out.1
    rw [Hlen.out] at ho2 ⊢
    exact OwnOut.mk _ c1 rfl ho2 (Chg.trans HO.out.2.1 HO2.out.2 fun i hi e => by omega)

theorem rrows_any (b : Nat) (F : Nat → Prop) (x : List Rw) (k : Nat) (w : World) (hs : RS w b F x k) (hx : rising x) (hl : x.length ≤ 1000000) :
    Calls Try.prog 35 #[.pointer (some ⟨b, 0, none⟩)] w fun e w' => OwnOut w w' 30 3 x.length (x.flatMap Rw.vals) (fun A c => .slice A x.length c) e := by
  obtain ⟨R, T, qb, l, A, c, M, added, hin, -⟩ := hs
  obtain ⟨c0, f0, s0⟩ := hin.blk.facts
  have HI := Lib.hid hin
  have HX := Lib.hid hx
  clear hin hx
  obtain ⟨W1, hW1⟩ : ∃ W1, w.alloc (.cells #[.map (some R)] 59) = W1 := ⟨_, rfl⟩
  have HG := Lib.hid (show Grew w W1 from hW1 ▸ (Chg.refl _ _).alloc _)
  have HB := Lib.hid (show Blk W1 w.heap.size 59 #[.map (some R)] from hW1 ▸ Blk.new _ _ _)
  have HW1 := Lib.hid hW1
  clear hW1
  go_enter Try.func35, Try.ntmps35
  go_wp2_with (first
    | (go_at_call 48; refine (mvals_any R _ W1 HW1.out).mono ?_; rintro e w5 ⟨rfl, rfl⟩)
    | (go_at_call 47; refine (rsorted_any w.heap.size R x _ HB.out (HI.out.rows.grew HG.out) HX.out hl).mono ?_; rintro e w6 ⟨A1, c1, rfl, ho, hg⟩; have HO := Lib.hid (And.intro ho hg); clear ho hg))
  go_ret
  exact OwnOut.mk A1 c1 rfl (own_base HO.out.1 HG.out.size) (Grew.trans HG.out HO.out.2)

/-- The place of the one that is due first, of one tick the least house. -/
def frI (x : List Rw) (i : Nat) : Option Nat := match i with
  | 0 => none
  | i + 1 => match frI x i with
    | none => some i
    | some b => match x[i]?, x[b]? with
      | some r, some s => if r.due < s.due then some i else some b
      | _, _ => some b
/-- .. as the document tells it. -/
def frV (o : Option Nat) : Int := match o with | none => -1 | some b => (b : Int)

theorem frI_lt (x : List Rw) : ∀ i, ∀ b, frI x i = some b → b < i
  | 0, b, h => by cases h
  | i + 1, b, h => by
    unfold frI at h
    cases hf : frI x i with
    | none => rw [hf] at h; cases h; omega
    | some c =>
      rw [hf] at h
      have := frI_lt x i c hf
      dsimp only at h
      split at h
      · split at h <;> (cases h; omega)
      · cases h; omega
theorem frI_some (x : List Rw) (i : Nat) (h : 0 < i) : ∃ b, frI x i = some b := by
  cases i with
  | zero => omega
  | succ i =>
    unfold frI
    cases frI x i with
    | none => exact ⟨_, rfl⟩
    | some c =>
      dsimp only
      split
      · split <;> exact ⟨_, rfl⟩
      · exact ⟨_, rfl⟩

set_option maxHeartbeats 800000 in
set_option maxRecDepth 100000 in
theorem xfirst_any (x : List Rw) (A : Option Addr) (c : Nat) (w : World) (hs : Sl w 3 A x.length (x.flatMap Rw.vals)) (hl : x.length ≤ 1000000) :
    Calls Try.prog 21 #[.slice A x.length c] w fun e w' => e = .returned (.int .i64 (frV (frI x x.length))) ∧ Grew w w' := by
  have H := Lib.hid hs
  clear hs
  go_enter Try.func21, Try.ntmps21
  go_wp2
  go_loopw [3, 4] (fun b i wr => ∃ k : Nat, k ≤ x.length ∧ i = .int .i64 k ∧ b = .int .i64 (frV (frI x k)) ∧ Grew w wr) (fun _ i _ => x.length - (intOf i).toNat)
  case atStart => exact ⟨0, Nat.zero_le _, rfl, rfl, Chg.refl _ _⟩
  case round =>
    obtain ⟨k, hk, rfl, rfl, hg⟩ := hrel
    have HG := Lib.hid hg
    clear hg
    by_cases hlt : k < x.length
    · obtain ⟨r, hr⟩ : ∃ r, x[k]? = some r := ⟨_, List.getElem?_eq_getElem hlt⟩
      obtain ⟨g, off, rfl, hb, d0, d1, d2⟩ := (H.out.grew HG.out).atRw hr
      cases hf : frI x k with
      | none =>
        have hf1 : frI x (k + 1) = some k := by rw [frI, hf]
        have t1 : decide (frV none < 0) = true := by decide
        have e1 : frV none = -1 := rfl
        have HF := Lib.hid hf1
        clear hf hf1
        rw [e1]
        go_wp2
        go_quiet (fail)
        go_wp2
        go_roundw
        case rel => exact ⟨k + 1, by omega, by go_num, by rw [HF.out]; rfl, HG.out.drewN nq⟩
        case measure => simp [intOf]; omega
      | some b =>
        have hbk := frI_lt x k b hf
        obtain ⟨s, hsb⟩ : ∃ s, x[b]? = some s := ⟨_, List.getElem?_eq_getElem (by omega)⟩
        obtain ⟨g', off', ea, hb', b0, b1, b2⟩ := (H.out.grew HG.out).atRw hsb
        obtain ⟨rfl, rfl⟩ : g = g' ∧ off = off' := by injection ea with ea; injection ea with h1 h2; exact ⟨h1, h2⟩
        have e1 : frV (some b) = (b : Int) := rfl
        have t1 : decide ((b : Int) < 0) = false := decide_eq_false (by omega)
        have u1 : (b : Int) < (x.length : Int) := by omega
        rw [e1]
        by_cases hd : r.due < s.due
        · have HF := Lib.hid (show frI x (k + 1) = some k by rw [frI, hf]; dsimp only; rw [hr, hsb]; dsimp only; rw [if_pos hd])
          have t2 : decide (r.due < s.due) = true := decide_eq_true hd
          clear hf hr hsb ea
          go_wp2
          go_quiet (fail)
          go_wp2
          go_roundw
          case rel => exact ⟨k + 1, by omega, by go_num, by rw [HF.out]; rfl, HG.out.drewN nq⟩
          case measure => simp [intOf]; omega
        · have HF := Lib.hid (show frI x (k + 1) = some b by rw [frI, hf]; dsimp only; rw [hr, hsb]; dsimp only; rw [if_neg hd])
          have t2 : decide (r.due < s.due) = false := decide_eq_false hd
          clear hf hr hsb ea
          go_wp2
          go_quiet (fail)
          go_wp2
          go_roundw
          case rel => exact ⟨k + 1, by omega, by go_num, by rw [HF.out]; rfl, HG.out.drewN nq⟩
          case measure => simp [intOf]; omega
    · obtain rfl : k = x.length := by omega
      go_wp2
      go_ret
      exact ⟨rfl, HG.out⟩

end Go.Proofs.Ytjpkpckgkhbfpaa
