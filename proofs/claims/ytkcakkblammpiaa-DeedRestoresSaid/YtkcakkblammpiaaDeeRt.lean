/- The document's Right: whatever the list. -/
import Derived.Test.YtkcakkblammpiaaDeeZ
import Derived.Laws.BitsLemmas
import Derived.Deep.DeepCutAuto
namespace Go.Proofs.Ytkcakkblammpiaa
open Go.RowKit

/-- What the document asks of one deed by itself, and of the one ahead of it. -/
def lone (l : List Dee) (nx : Int) (k : Nat) (x : Dee) : Prop := 1 ≤ x.id ∧ x.id < nx ∧ 1 ≤ x.plot ∧ 1 ≤ x.holder ∧ ∀ y, 0 < k → l[k - 1]? = some y → y.id < x.id
def goodAt (l : List Dee) (nx : Int) (k : Nat) (x : Dee) : Prop := lone l nx k x ∧ (∀ y ∈ l.take k, y.plot ≠ x.plot) ∧ (heldOf (l.take k) x.holder).length ≤ 2
/-- What the document's Right tells. -/
def Rgt (l : List Dee) (nx : Int) : Prop := 1 ≤ nx ∧ nx ≤ 1099511627776 ∧ ∀ k x, l[k]? = some x → goodAt l nx k x

theorem held_snoc {l : List Dee} {j : Nat} {z : Dee} (h : Int) (hz : l[j]? = some z) : (heldOf (l.take (j + 1)) h).length = (heldOf (l.take j) h).length + if z.holder == h then 1 else 0 := by
  by_cases e : (z.holder == h) = true
  · have := ids_take (p := fun x : Dee => x.holder == h) hz e
    unfold heldOf
    rw [this, List.length_append, if_pos e]
    rfl
  · have e' : (z.holder == h) = false := by simpa using e
    have := ids_skip (p := fun x : Dee => x.holder == h) hz e'
    unfold heldOf
    rw [this, if_neg e]
    rfl

theorem take_snoc_mem {l : List Dee} {j : Nat} {z : Dee} (hz : l[j]? = some z) {P : Dee → Prop} (h : ∀ y ∈ l.take j, P y) (hp : P z) : ∀ y ∈ l.take (j + 1), P y := by
  intro y hy
  rw [List.take_add_one, hz] at hy
  rcases List.mem_append.1 hy with hy | hy
  · exact h y hy
  · simp at hy; subst hy; exact hp
theorem take_mem {l : List Dee} {j k : Nat} {z : Dee} (hz : l[j]? = some z) (hj : j < k) : z ∈ l.take k := by
  rw [List.mem_iff_getElem?]
  exact ⟨j, by rw [List.getElem?_take_of_lt hj]; exact hz⟩

set_option maxRecDepth 100000 in
set_option maxHeartbeats 3200000 in
theorem rright_any (nx : Int) (l : List Dee) (A : Option Addr) (c : Nat) (w : World) (hl : l.length ≤ 1000000) (hs : Sl w 3 A l.length (l.flatMap Dee.vals)) (R : Bool) (hR : R = true ↔ Rgt l nx) :
    Calls Try.prog 19 #[.slice A l.length c, .int .i64 nx] w fun e w' => e = .returned (.bool R) ∧ Grew w w' := by
  have Hs := Lib.hid hs
  have HR := Lib.hid hR
  clear hs hR
  by_cases n1 : nx < 1
  · have hr : R = false := by
      cases R
      · rfl
      · have := HR.out.1 rfl; have := this.1; omega
    subst hr
    go_enter Try.func19, Try.ntmps19
    go_wp2
    go_ret
    exact ⟨rfl, Chg.refl _ _⟩
  by_cases n2 : nx > 1099511627776
  · have hr : R = false := by
      cases R
      · rfl
      · have := HR.out.1 rfl; have := this.2.1; omega
    subst hr
    go_enter Try.func19, Try.ntmps19
    go_wp2
    go_ret
    exact ⟨rfl, Chg.refl _ _⟩
  go_enter Try.func19, Try.ntmps19
  go_wp2_with fail
  go_loopw [5] (fun i wr => ∃ k : Nat, k ≤ l.length ∧ i = .int .i64 k ∧ Grew w wr ∧ ∀ j y, j < k → l[j]? = some y → goodAt l nx j y) (fun i _ => l.length - (intOf i).toNat)
  case atStart => exact ⟨0, Nat.zero_le _, rfl, Chg.refl _ _, fun j y hj => absurd hj (by omega)⟩
  case round =>
    obtain ⟨k, hk, rfl, hg, hgood⟩ := hrel
    have Hgood := Lib.hid hgood
    have Hg := Lib.hid hg
    clear hgood hg
    obtain ⟨wo, rfl⟩ : ∃ wo : World, wo = wr := ⟨_, rfl⟩
    by_cases hlt : k < l.length
    · obtain ⟨x, hx⟩ : ∃ x, l[k]? = some x := ⟨_, List.getElem?_eq_getElem hlt⟩
      obtain ⟨g, off, rfl, hb, d0, d1, d2⟩ := (Hs.out.grew Hg.out).atDee hx
      have Hx := Lib.hid hx
      obtain ⟨G, hG⟩ : ∃ G : Bool, G = true ↔ ¬ lone l nx k x := by
        by_cases h : lone l nx k x
        · exact ⟨false, by simp [h]⟩
        · exact ⟨true, by simp [h]⟩
      have HG := Lib.hid hG
      have hbad : ∀ r : Bool, ¬ goodAt l nx k x → R = false := fun _ h => by
        cases hRR : R
        · rfl
        · exact absurd (((HR.out.1 hRR).2.2) k x Hx.out) h
      have Hbad := Lib.hid hbad
      clear hx hG hbad
      go_upto_region 6 with fail
      go_cut [68] (fun v wx => v = .bool G ∧ Grew wo wx)
      case first =>
        have hk2 : (k : Int) < (l.length : Int) := by omega
        have hk4 : (0 : Int) ≤ (k : Int) := Int.natCast_nonneg _
        by_cases a1 : x.id < 1
        · have t1 : decide (x.id < 1) = true := by simpa using a1
          have Hv := Lib.hid (HG.out.2 fun h => by have := h.1; omega)
          go_big_quiet (fail)
          go_wp2
          go_meet
          exact ⟨by rw [Hv.out], Chg.drewN (Chg.refl _ _) _⟩
        have t1 : decide (x.id < 1) = false := by simpa using a1
        by_cases a2 : nx ≤ x.id
        · have t2 : decide (nx ≤ x.id) = true := by simpa using a2
          have Hv := Lib.hid (HG.out.2 fun h => by have := h.2.1; omega)
          go_big_quiet (fail)
          go_wp2
          go_meet
          exact ⟨by rw [Hv.out], Chg.drewN (Chg.refl _ _) _⟩
        have t2 : decide (nx ≤ x.id) = false := by simpa using a2
        by_cases a3 : x.plot < 1
        · have t3 : decide (x.plot < 1) = true := by simpa using a3
          have Hv := Lib.hid (HG.out.2 fun h => by have := h.2.2.1; omega)
          go_big_quiet (fail)
          go_wp2
          go_meet
          exact ⟨by rw [Hv.out], Chg.drewN (Chg.refl _ _) _⟩
        have t3 : decide (x.plot < 1) = false := by simpa using a3
        by_cases a4 : x.holder < 1
        · have t4 : decide (x.holder < 1) = true := by simpa using a4
          have Hv := Lib.hid (HG.out.2 fun h => by have := h.2.2.2.1; omega)
          go_big_quiet (fail)
          go_wp2
          go_meet
          exact ⟨by rw [Hv.out], Chg.drewN (Chg.refl _ _) _⟩
        have t4 : decide (x.holder < 1) = false := by simpa using a4
        rcases Nat.eq_zero_or_pos k with hk0 | hk0
        · have hk1 : decide ((0 : Int) < (k : Int)) = false := by simp; omega
          have hk1' : decide (0 < k) = false := by simp; omega
          have Hv := Lib.hid (show G = false by
            cases hGG : G
            · rfl
            · exact absurd ⟨by omega, by omega, by omega, by omega, fun y h => by omega⟩ (HG.out.1 hGG))
          clear hk0
          go_big_quiet (fail)
          go_wp2
          go_meet
          exact ⟨by rw [Hv.out], Chg.drewN (Chg.refl _ _) _⟩
        · obtain ⟨y, hy⟩ : ∃ y, l[k - 1]? = some y := ⟨_, List.getElem?_eq_getElem (by omega)⟩
          obtain ⟨g', off', hA', -, e0, -⟩ := (Hs.out.grew Hg.out).atDee hy
          simp only [Option.some.injEq, Addr.mk.injEq, and_true] at hA'
          obtain ⟨rfl, rfl⟩ := hA'
          have hk1 : decide ((0 : Int) < (k : Int)) = true := by simp; omega
          have hk1' : decide (0 < k) = true := by simp; omega
          have hw : IntKind.i64.wrap ((k : Int) - 1) = ((k - 1 : Nat) : Int) := by have e := IntWalk.wrap64_in ((k : Int) - 1) ⟨by omega, by omega⟩; rw [IntKind.wrap_i64]; unfold wrap64 at e; omega
          have hk3 : ((k - 1 : Nat) : Int) < (l.length : Int) := by omega
          have hk5 : (0 : Int) ≤ ((k - 1 : Nat) : Int) := by omega
          have Hy := Lib.hid hy
          clear hy
          by_cases a5 : x.id ≤ y.id
          · have t5 : decide (x.id ≤ y.id) = true := by simpa using a5
            have Hv := Lib.hid (HG.out.2 fun h => by have := h.2.2.2.2 y hk0 Hy.out; omega)
            go_big_quiet (fail)
            go_wp2
            go_meet
            exact ⟨by rw [Hv.out], Chg.drewN (Chg.refl _ _) _⟩
          · have t5 : decide (x.id ≤ y.id) = false := by simpa using a5
            have Hv := Lib.hid (show G = false by
              cases hGG : G
              · rfl
              · exact absurd ⟨by omega, by omega, by omega, by omega, fun y' _ h' => by rw [Hy.out] at h'; cases h'; omega⟩ (HG.out.1 hGG))
            go_big_quiet (fail)
            go_wp2
            go_meet
            exact ⟨by rw [Hv.out], Chg.drewN (Chg.refl _ _) _⟩
      case rest =>
        obtain ⟨rfl, hgx0⟩ := hcut
        obtain ⟨w1, hw1, hgx⟩ : ∃ w1, w1 = _ ∧ Grew wo w1 := ⟨_, rfl, hgx0⟩
        subst hw1
        have Hg1 := Lib.hid (Grew.trans Hg.out hgx)
        have Hd := Lib.hid ((Hs.out.grew Hg.out).grew hgx)
        clear d0 d1 d2 hgx0 hgx
        cases hGv : G
        · have Hlone := Lib.hid (show lone l nx k x from Classical.byContradiction fun h => by have := HG.out.2 h; rw [hGv] at this; cases this)
          clear hGv
          go_wp2_with fail
          go_loopw [6, 7] (fun v i wr => ∃ (j m : Nat), j ≤ k ∧ i = .int .i64 j ∧ v = .int .i64 m ∧ m = (heldOf (l.take j) x.holder).length ∧ m ≤ j ∧ (∀ y ∈ l.take j, y.plot ≠ x.plot) ∧ Grew w1 wr) (fun _ i _ => k - (intOf i).toNat)
          case atStart => exact ⟨0, 0, Nat.zero_le _, rfl, rfl, by simp [heldOf, ids], Nat.le_refl _, by simp, Chg.refl _ _⟩
          case round =>
            obtain ⟨j, m, hj, rfl, rfl, hm, hmj, hpl, hg2⟩ := hrel
            have Hm := Lib.hid hm
            have Hpl := Lib.hid hpl
            have Hg2 := Lib.hid hg2
            clear hm hpl hg2
            by_cases hjk : j < k
            · obtain ⟨z, hz⟩ : ∃ z, l[j]? = some z := ⟨_, List.getElem?_eq_getElem (by omega)⟩
              obtain ⟨g3, off3, hA3, hb4, z0, z1, z2⟩ := (Hd.out.grew Hg2.out).atDee hz
              simp only [Option.some.injEq, Addr.mk.injEq, and_true] at hA3
              obtain ⟨rfl, rfl⟩ := hA3
              obtain ⟨g4, off4, hA4, -, x0, x1, x2⟩ := (Hd.out.grew Hg2.out).atDee Hx.out
              simp only [Option.some.injEq, Addr.mk.injEq, and_true] at hA4
              obtain ⟨rfl, rfl⟩ := hA4
              have hj1 : (j : Int) < (l.length : Int) := by omega
              have hj2 : (j : Int) < (k : Int) := by omega
              have hj3 : (0 : Int) ≤ (j : Int) := Int.natCast_nonneg _
              have hk2 : (k : Int) < (l.length : Int) := by omega
              have hk4 : (0 : Int) ≤ (k : Int) := Int.natCast_nonneg _
              have Hz := Lib.hid hz
              clear hz
              by_cases hp : z.plot = x.plot
              · have hzx : (z.plot == x.plot) = true := by simpa using hp
                have Hv := Lib.hid (Hbad.out true fun h => h.2.1 z (take_mem Hz.out hjk) hp)
                clear hp
                go_wp2_with fail
                go_quiet (fail)
                go_wp2_with fail
                go_ret
                exact ⟨by rw [Hv.out]; rfl, Chg.drewN (Grew.trans Hg1.out Hg2.out) _⟩
              · have hzx : (z.plot == x.plot) = false := by simpa using hp
                have Hp := Lib.hid hp
                clear hp
                go_wp2_with fail
                go_quiet (fail)
                go_wp2_with fail
                have hsn := held_snoc x.holder Hz.out
                rcases hq : (z.holder == x.holder) with _ | _
                · rw [hq] at hsn
                  have Hsn := Lib.hid hsn
                  clear hsn
                  obtain ⟨w5, hw5, hg5⟩ : ∃ w5, w5 = _ ∧ Grew w1 w5 := ⟨_, rfl, Chg.drewN Hg2.out nq⟩
                  rw [← hw5]
                  have z2' : w5.cell? ⟨g, off + j * 3 + 2, none⟩ = some (.int .i64 z.holder) := by rw [hw5]; exact z2
                  have x2' : w5.cell? ⟨g, off + k * 3 + 2, none⟩ = some (.int .i64 x.holder) := by rw [hw5]; exact x2
                  have Hg5 := Lib.hid hg5
                  clear hw5 hg5 z0 z1 z2 x0 x1 x2
                  go_quiet (fail)
                  go_wp2_with fail
                  go_roundw
                  case rel => exact ⟨j + 1, m, by omega, by go_num, rfl, by rw [Hsn.out, Hm.out]; rfl, by omega, take_snoc_mem Hz.out Hpl.out Hp.out, Chg.drewN Hg5.out _⟩
                  case measure => simp [intOf]; omega
                · rw [hq] at hsn
                  have Hsn := Lib.hid hsn
                  clear hsn
                  obtain ⟨w5, hw5, hg5⟩ : ∃ w5, w5 = _ ∧ Grew w1 w5 := ⟨_, rfl, Chg.drewN Hg2.out nq⟩
                  rw [← hw5]
                  have z2' : w5.cell? ⟨g, off + j * 3 + 2, none⟩ = some (.int .i64 z.holder) := by rw [hw5]; exact z2
                  have x2' : w5.cell? ⟨g, off + k * 3 + 2, none⟩ = some (.int .i64 x.holder) := by rw [hw5]; exact x2
                  have Hg5 := Lib.hid hg5
                  clear hw5 hg5 z0 z1 z2 x0 x1 x2
                  go_quiet (fail)
                  go_wp2_with fail
                  go_roundw
                  case rel => exact ⟨j + 1, m + 1, by omega, by go_num, by go_num, by rw [Hsn.out, Hm.out]; rfl, by omega, take_snoc_mem Hz.out Hpl.out Hp.out, Chg.drewN Hg5.out _⟩
                  case measure => simp [intOf]; omega
            · obtain rfl : j = k := by omega
              by_cases hm2 : 2 < m
              · have Hv := Lib.hid (Hbad.out true fun h => by have := h.2.2; rw [← Hm.out] at this; omega)
                go_wp2_with fail
                go_ret
                exact ⟨by rw [Hv.out]; rfl, Grew.trans Hg1.out Hg2.out⟩
              · have Hgd := Lib.hid (show goodAt l nx j x from ⟨Hlone.out, Hpl.out, by rw [← Hm.out]; omega⟩)
                go_wp2_with fail
                go_roundw
                case rel =>
                  refine ⟨j + 1, by omega, by go_num, Grew.trans Hg1.out Hg2.out, fun i y hi hy => ?_⟩
                  by_cases e : i = j
                  · subst e
                    have := Hx.out
                    rw [hy] at this
                    cases this
                    exact Hgd.out
                  · exact Hgood.out i y (by omega) hy
                case measure => simp [intOf]; omega
        · have Hv := Lib.hid (Hbad.out true fun h => absurd h.1 (HG.out.1 hGv))
          clear hGv
          go_wp2_with fail
          go_ret
          exact ⟨by rw [Hv.out]; rfl, Hg1.out⟩
    · obtain rfl : k = l.length := by omega
      have Hv := Lib.hid (HR.out.2 ⟨by omega, by omega, fun j y hy => Hgood.out j y (List.getElem?_eq_some_iff.1 hy).1 hy⟩)
      go_wp2_with fail
      go_ret
      exact ⟨by rw [Hv.out]; rfl, Hg.out⟩

end Go.Proofs.Ytkcakkblammpiaa
