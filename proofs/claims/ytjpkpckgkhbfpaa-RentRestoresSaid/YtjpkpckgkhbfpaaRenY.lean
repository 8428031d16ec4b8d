/- The rent: Restore and Copy. -/
import Derived.Test.YtjpkpckgkhbfpaaRenW
import Derived.Test.YtjpkpckgkhbfpaaQueXm
import Derived.Test.YtjpkpckgkhbfpaaRangeH
namespace Go.Proofs.Ytjpkpckgkhbfpaa
open Go.RowKit Go.Maps

/-- May it be a row? -/
def fitB (r : Rw) : Bool := decide (1 ≤ r.house) && decide (1 ≤ r.rate) && amt r.rate && decide (0 ≤ r.due) && decide (r.due ≤ 4398046511104)
theorem fitB_yes {r : Rw} (h : fitB r = true) (ho : r.ok) : r.fit := by
  simp only [fitB, amt, Bool.and_eq_true, decide_eq_true_eq] at h
  exact ⟨by omega, ho.2.1, by omega, by omega, by omega, by omega⟩
/-- .. do they rise? -/
def okL : List Rw → Int → Bool
  | [], _ => true
  | r :: l, last => decide (last < r.house) && fitB r && okL l r.house
/-- The last one's house. -/
def lastL : List Rw → Int → Int
  | [], last => last
  | r :: l, _ => lastL l r.house
theorem lastL_snoc : ∀ (l : List Rw) (r : Rw) (z : Int), lastL (l ++ [r]) z = r.house
  | [], _, _ => rfl
  | _ :: l, r, _ => lastL_snoc l r _
theorem okL_append : ∀ (l m : List Rw) (z : Int), okL (l ++ m) z = (okL l z && okL m (lastL l z))
  | [], m, z => by simp [okL, lastL]
  | x :: l, m, z => by
    rw [List.cons_append, okL, okL, okL_append l m x.house, lastL]
    cases decide (z < x.house) <;> cases fitB x <;> simp
theorem okL_snoc (l : List Rw) (r : Rw) (z : Int) : okL (l ++ [r]) z = (okL l z && (decide (lastL l z < r.house) && fitB r)) := by
  rw [okL_append]; simp [okL]
theorem okL_take {l : List Rw} {k : Nat} {r : Rw} (hr : l[k]? = some r) (z : Int) : okL (l.take (k + 1)) z = (okL (l.take k) z && (decide (lastL (l.take k) z < r.house) && fitB r)) ∧ lastL (l.take (k + 1)) z = r.house := by
  have e : l.take (k + 1) = l.take k ++ [r] := by rw [List.take_add_one, hr]; rfl
  rw [e]
  exact ⟨okL_snoc _ _ _, lastL_snoc _ _ _⟩
theorem okL_pre {l : List Rw} {z : Int} (h : okL l z = true) (k : Nat) : okL (l.take k) z = true := by
  have e := okL_append (l.take k) (l.drop k) z
  rw [List.take_append_drop, h] at e
  cases ht : okL (l.take k) z with
  | true => rfl
  | false => rw [ht] at e; simp at e
theorem okL_le : ∀ {l : List Rw} {z : Int}, okL l z = true → z ≤ lastL l z ∧ ∀ r ∈ l, z < r.house ∧ r.house ≤ lastL l z
  | [], z, _ => ⟨Int.le_refl _, fun r hr => by cases hr⟩
  | x :: l, z, h => by
    simp only [okL, Bool.and_eq_true, decide_eq_true_eq] at h
    obtain ⟨h1, h2⟩ := okL_le h.2
    simp only [lastL]
    refine ⟨by omega, fun r hr => ?_⟩
    rcases List.mem_cons.1 hr with rfl | hr
    · exact ⟨h.1.1, h1⟩
    · have := h2 r hr
      omega
theorem okL_rising : ∀ {l : List Rw} {z : Int}, okL l z = true → rising l
  | [], _, _ => List.Pairwise.nil
  | x :: l, z, h => by
    simp only [okL, Bool.and_eq_true, decide_eq_true_eq] at h
    exact List.pairwise_cons.2 ⟨fun y hy => ((okL_le h.2).2 y hy).1, okL_rising h.2⟩
theorem okL_fit : ∀ {l : List Rw} {z : Int}, okL l z = true → ∀ r ∈ l, fitB r = true
  | x :: l, z, h, r, hr => by
    simp only [okL, Bool.and_eq_true, decide_eq_true_eq] at h
    rcases List.mem_cons.1 hr with rfl | hr
    · exact h.1.2
    · exact okL_fit h.2 r hr
theorem putL_end {l : List Rw} {r : Rw} (h : ∀ y ∈ l, y.house < r.house) : putL l r = l ++ [r] := by
  induction l with
  | nil => rfl
  | cons y l ih =>
    unfold putL
    rw [if_pos (h y (by simp)), ih fun z hz => h z (by simp [hz])]
    rfl

set_option maxHeartbeats 1600000 in
theorem rright_any (r : Rw) (w : World) : Calls Try.prog 39 #[(.agg #[.int .i64 r.house, .int .i64 r.rate, .int .i64 r.due])] w fun e w' => e = .returned (.bool (fitB r)) ∧ Grew w w' := by
  obtain ⟨W, hW⟩ : ∃ W, w.alloc (.cells #[.int .i64 r.house, .int .i64 r.rate, .int .i64 r.due] 30) = W := ⟨_, rfl⟩
  have HG := Lib.hid (show Grew w W from hW ▸ (Chg.refl _ _).alloc _)
  have HB := Lib.hid (show Blk W w.heap.size 30 #[.int .i64 r.house, .int .i64 r.rate, .int .i64 r.due] from hW ▸ Blk.new _ _ _)
  have HW := Lib.hid hW
  obtain ⟨c0, f0, s0⟩ := HB.out.facts
  clear hW
  by_cases ha : 1 ≤ r.house
  rotate_left
  · have ta : decide (1 ≤ r.house) = false := decide_eq_false ha
    have hv : fitB r = false := by simp only [fitB, ta, Bool.and_true, Bool.true_and, Bool.and_false, Bool.false_and]
    have HV := Lib.hid hv
    clear hv 
    rw [HV.out]
    go_enter Try.func39, Try.ntmps39
    go_wp2_with (first
      | (rw [HW.out]))
    go_ret
    exact ⟨rfl, HG.out⟩
  have ta : decide (1 ≤ r.house) = true := decide_eq_true ha
  by_cases hb : 1 ≤ r.rate
  rotate_left
  · have tb : decide (1 ≤ r.rate) = false := decide_eq_false hb
    have hv : fitB r = false := by simp only [fitB, ta, tb, Bool.and_true, Bool.true_and, Bool.and_false, Bool.false_and]
    have HV := Lib.hid hv
    clear hv 
    rw [HV.out]
    go_enter Try.func39, Try.ntmps39
    go_wp2_with (first
      | (rw [HW.out]))
    go_ret
    exact ⟨rfl, HG.out⟩
  have tb : decide (1 ≤ r.rate) = true := decide_eq_true hb
  by_cases hc : amt r.rate = true
  rotate_left
  · have tc : decide (amt r.rate = true) = false := decide_eq_false hc
    have tc1 : amt r.rate = false := by simpa using hc
    have hv : fitB r = false := by (try simp only [decide_eq_true_eq, decide_eq_false_iff_not] at tc); simp only [fitB, ta, tb, tc1, Bool.and_true, Bool.true_and, Bool.and_false, Bool.false_and]
    have HV := Lib.hid hv
    clear hv tc hc
    have TC := Lib.hid tc1
    clear tc1
    rw [HV.out]
    go_enter Try.func39, Try.ntmps39
    go_wp2_with (first
      | (rw [HW.out])
      | (go_at_call 27; refine (right_any r.rate _ TC.out _).mono ?_; rintro e w2 ⟨rfl, rfl⟩))
    go_ret
    exact ⟨rfl, HG.out⟩
  have tc : decide (amt r.rate = true) = true := decide_eq_true hc
  by_cases hd : 0 ≤ r.due
  rotate_left
  · have td : decide (0 ≤ r.due) = false := decide_eq_false hd
    have tc1 : amt r.rate = true := by simpa using hc
    have hv : fitB r = false := by (try simp only [decide_eq_true_eq, decide_eq_false_iff_not] at tc); simp only [fitB, ta, tb, td, tc1, Bool.and_true, Bool.true_and, Bool.and_false, Bool.false_and]
    have HV := Lib.hid hv
    clear hv tc hc
    have TC := Lib.hid tc1
    clear tc1
    rw [HV.out]
    go_enter Try.func39, Try.ntmps39
    go_wp2_with (first
      | (rw [HW.out])
      | (go_at_call 27; refine (right_any r.rate _ TC.out _).mono ?_; rintro e w2 ⟨rfl, rfl⟩))
    go_ret
    exact ⟨rfl, HG.out⟩
  have td : decide (0 ≤ r.due) = true := decide_eq_true hd
  by_cases he : r.due ≤ 4398046511104
  rotate_left
  · have te : decide (r.due ≤ 4398046511104) = false := decide_eq_false he
    have tc1 : amt r.rate = true := by simpa using hc
    have hv : fitB r = false := by (try simp only [decide_eq_true_eq, decide_eq_false_iff_not] at tc); simp only [fitB, ta, tb, td, te, tc1, Bool.and_true, Bool.true_and, Bool.and_false, Bool.false_and]
    have HV := Lib.hid hv
    clear hv tc hc
    have TC := Lib.hid tc1
    clear tc1
    rw [HV.out]
    go_enter Try.func39, Try.ntmps39
    go_wp2_with (first
      | (rw [HW.out])
      | (go_at_call 27; refine (right_any r.rate _ TC.out _).mono ?_; rintro e w2 ⟨rfl, rfl⟩))
    go_ret
    exact ⟨rfl, HG.out⟩
  have te : decide (r.due ≤ 4398046511104) = true := decide_eq_true he
  have tc1 : amt r.rate = true := by simpa using hc
  have hv : fitB r = true := by (try simp only [decide_eq_true_eq, decide_eq_false_iff_not] at tc); simp only [fitB, ta, tb, td, te, tc1, Bool.and_true, Bool.true_and, Bool.and_false, Bool.false_and]
  have HV := Lib.hid hv
  clear hv tc hc
  have TC := Lib.hid tc1
  clear tc1
  rw [HV.out]
  go_enter Try.func39, Try.ntmps39
  go_wp2_with (first
    | (rw [HW.out])
    | (go_at_call 27; refine (right_any r.rate _ TC.out _).mono ?_; rintro e w2 ⟨rfl, rfl⟩))
  go_ret
  exact ⟨rfl, HG.out⟩

set_option maxRecDepth 100000 in
set_option maxHeartbeats 1600000 in
theorem rrestore_any (l : List Rw) (A : Option Addr) (c : Nat) (w : World) (hl : l.length ≤ 60) (hs : Sl w 3 A l.length (l.flatMap Rw.vals)) (hok : ∀ r ∈ l, r.ok) :
    Calls Try.prog 23 #[.slice A l.length c] w fun e w' => (okL l 0 = true ∧ ∃ b, e = .returned (.tuple #[.pointer (some ⟨b, 0, none⟩), .bool true]) ∧ RM w w' b l l.length) ∨ (okL l 0 = false ∧ e = .returned (.tuple #[.pointer none, .bool false]) ∧ Grew w w') := by
  have H := Lib.hid (And.intro hs hok)
  obtain ⟨b, hb⟩ : ∃ b, w.heap.size + 4 = b := ⟨_, rfl⟩
  clear hs hok
  go_enter Try.func23, Try.ntmps23
  go_wp2_with (go_at_call 9; refine (rnew_any _).mono ?_; rintro e w1 ⟨rfl, h1⟩; have H1 := Lib.hid (RM.made (Chg.refl _ _) h1); clear h1; rw [hb] at H1 ⊢)
  go_loopw [5, 11] (fun v i wr => ∃ k : Nat, k ≤ l.length ∧ i = .int .i64 k ∧ v = .int .i64 (lastL (l.take k) 0) ∧ okL (l.take k) 0 = true ∧ RM w wr b (l.take k) k) (fun _ i _ => l.length - (intOf i).toNat)
  case atStart => exact ⟨0, Nat.zero_le _, rfl, rfl, rfl, H1.out⟩
  case round =>
    obtain ⟨k, hk, rfl, rfl, hp, hm⟩ := hrel
    have HM := Lib.hid hm
    have HP := Lib.hid hp
    clear hm hp
    by_cases hlt : k < l.length
    · obtain ⟨r, hr⟩ : ∃ r, l[k]? = some r := ⟨_, List.getElem?_eq_getElem hlt⟩
      obtain ⟨g, off, rfl, hb', d0, d1, d2⟩ := (H.out.1.grew HM.out.grew).atRw hr
      have HR := Lib.hid hr
      have HO := Lib.hid (H.out.2 r (List.mem_of_getElem? hr))
      obtain ⟨e1, e2⟩ := okL_take hr 0
      rw [HP.out] at e1
      have HE := Lib.hid (And.intro e1 e2)
      obtain ⟨last, hlast⟩ : ∃ last, lastL (l.take k) 0 = last := ⟨_, rfl⟩
      rw [hlast] at HE ⊢
      have HL := Lib.hid hlast
      clear hr e1 e2 hlast
      by_cases hh : r.house ≤ last
      · have t1 : decide (r.house ≤ last) = true := decide_eq_true hh
        have hno : okL l 0 = false := by
          have h1 := HE.out.1
          rw [show decide (last < r.house) = false from decide_eq_false (by omega)] at h1
          cases h2 : okL l 0 with
          | false => rfl
          | true => rw [okL_pre h2] at h1; simp at h1
        have HN := Lib.hid hno
        clear hno
        go_wp2_with fail
        go_ret2
        exact .inr ⟨HN.out, rfl, HM.out.grew.alloc _⟩
      · have t1 : decide (r.house ≤ last) = false := decide_eq_false hh
        cases hf : fitB r with
        | false =>
          have hno : okL l 0 = false := by
            have h1 := HE.out.1
            rw [hf, Bool.and_false, Bool.and_false] at h1
            cases h2 : okL l 0 with
            | false => rfl
            | true => rw [okL_pre h2] at h1; cases h1
          have HN := Lib.hid hno
          have HF := Lib.hid hf
          clear hno hf
          go_wp2_with (go_at_call 39; refine (rright_any r _).mono ?_; rw [HF.out]; rintro e w3 ⟨rfl, hg3⟩; have HG3 := Lib.hid hg3; clear hg3)
          go_ret2
          exact .inr ⟨HN.out, rfl, Grew.trans (HM.out.grew.alloc _) HG3.out⟩
        | true =>
          have HF := Lib.hid hf
          have hnew : fnd (l.take k) r.house = none := fnd_none.2 fun y hy e => by
            have := ((okL_le HP.out).2 y hy).2
            rw [HL.out] at this
            omega
          have hend : putL (l.take k) r = l.take (k + 1) := by
            rw [putL_end fun y hy => by have := ((okL_le HP.out).2 y hy).2; rw [HL.out] at this; omega, List.take_add_one, HR.out]; rfl
          have hnext : okL (l.take (k + 1)) 0 = true := by rw [HE.out.1, hf, show decide (last < r.house) = true from decide_eq_true (by omega)]; rfl
          have HN := Lib.hid (And.intro hnew (And.intro hend hnext))
          clear hf hnew hend hnext
          go_wp2_with (first
            | (go_at_call 39; refine (rright_any r _).mono ?_; rw [HF.out]; rintro e w3 ⟨rfl, hg3⟩; have HG3 := Lib.hid (Grew.trans ((Chg.refl NoF wr).alloc (.cells #[.int .i64 r.house, .int .i64 r.rate, .int .i64 r.due] 30)) hg3); have hbr := (Blk.new wr 30 #[.int .i64 r.house, .int .i64 r.rate, .int .i64 r.due]).grew hg3; clear hg3; obtain ⟨c0, f0, s0⟩ := hbr.facts; clear hbr)
            | (go_at_call 29; obtain ⟨F, hrs, nx⟩ := (HM.out.on HG3.out).at; refine (rput_new b F _ k r _ hrs (fitB_yes HF.out HO.out) HN.out.1 (by omega)).mono ?_; rintro e w5 ⟨rfl, ht⟩; have H5 := Lib.hid (nx _ _ _ ht); clear ht nx hrs c0 f0 s0))
          have h5 := H5.out
          rw [HN.out.2.1] at h5
          exact ⟨⟨k + 1, by omega, by simp, by rw [HE.out.2], HN.out.2.2, h5⟩, by simp [intOf]; omega⟩
    · obtain rfl : k = l.length := by omega
      rw [List.take_length] at HP HM ⊢
      go_wp2_with fail
      go_ret2
      exact .inl ⟨HP.out, b, rfl, HM.out⟩

theorem rclone_any (M : Nat) (m : Int → Option Value) (s : Nat) (w : World) (h : IMap Try.prog 3 w M m s) :
    Calls Try.prog 40 #[.map (some M)] w fun e w' => e = .returned (.map (some w.heap.size)) ∧ IMap Try.prog 3 w' w.heap.size m s ∧ Grew w w' := by
  obtain ⟨D, ho, hr⟩ := h
  refine Calls.mono (show Calls Try.prog 40 _ _ _ from AnyW.maps_Clone_owns cloneR 3 rdV M s D w ho) ?_
  rintro e w' ⟨he, h1, h2, h3⟩
  exact ⟨he, ⟨D, h1, hr⟩, Grew.of_below h3⟩

/-- A copy's answer: new blocks alone. -/
def RCopied (w w' : World) (x : List Rw) (k : Nat) (e : Ending) : Prop :=
  ∃ b F, e = .returned (.pointer (some ⟨b, 0, none⟩)) ∧ RS w' b F x k ∧ Grew w w' ∧ ∀ j, F j → w.heap.size ≤ j
theorem rcopy_done {w wz W : World} {x : List Rw} {k R T qb c M : Nat} {l : List Itm} {A : Option Addr} {added : Int}
    (hR : IMap Try.prog 3 wz R (rwm x) x.length) (hT : IMap Try.prog 3 wz T (atm l) l.length) (hQ : Q wz qb l A c M added) (hg : Grew w wz) (h1 : w.heap.size ≤ R) (h2 : w.heap.size ≤ T) (h3 : ∀ j, QF qb A M j → w.heap.size ≤ j)
    (hs : R ≠ T ∧ R ≠ M ∧ T ≠ M) (hp : RP x l added) (hk : 0 ≤ added ∧ added ≤ k ∧ x.length ≤ k) (hf : ∀ r ∈ x, r.fit)
    (hW : wz.alloc (.cells #[.map (some R), .pointer (some ⟨qb, 0, none⟩), .map (some T)] 64) = W) : RCopied w W x k (.returned (.pointer (some ⟨wz.heap.size, 0, none⟩))) := by
  have hg1 : Grew wz W := hW ▸ (Chg.refl _ _).alloc _
  have hin : RIn W wz.heap.size R T qb (rwm x) x.length (atm l) l.length l A c M added := ⟨hW ▸ Blk.new _ _ _, hR.grew hg1, hT.grew hg1, hQ.grew hg1, hs⟩
  refine ⟨_, RF wz.heap.size R T qb A M, rfl, ⟨R, T, qb, l, A, c, M, added, hin, hp, hk, fun _ h => h, hin.lt, hf⟩, Grew.trans hg hg1, fun j hj => ?_⟩
  rcases hj with rfl | rfl | rfl | hj
  · exact hg.size
  · exact h1
  · exact h2
  · exact h3 j hj

set_option maxRecDepth 100000 in
set_option maxHeartbeats 3200000 in
theorem rcopy_any (b : Nat) (F : Nat → Prop) (x : List Rw) (k : Nat) (w : World) (hs : RS w b F x k) (hk : k ≤ 900000) :
    Calls Try.prog 24 #[.pointer (some ⟨b, 0, none⟩)] w fun e w' => RCopied w w' x k e := by
  obtain ⟨R, T, qb, l, A, c, M, added, hin, hp, hkk, hF, hlt, hfit⟩ := hs
  obtain ⟨c0, f0, s0⟩ := hin.blk.facts
  have c00 := c0 0
  have c01 := c0 1
  have c02 := c0 2
  simp only [List.getElem?_toArray, List.getElem?_cons_zero, List.getElem?_cons_succ] at c00 c01 c02
  have HI := Lib.hid hin
  have HP := Lib.hid (And.intro hp (And.intro hkk hfit))
  have hll : l.length ≤ 1000000 := by rw [hp.len]; omega
  clear hin hp hkk hF hlt hfit c0 f0
  go_enter Try.func24, Try.ntmps24
  go_wp2_with fail
  refine wp_region_held_drew (S := fun w' => ∀ (B i : Nat), B < w.heap.size → w'.cell? ⟨B, i, none⟩ = w.cell? ⟨B, i, none⟩) (by kernel_rfl) (by intro B i _; rfl) (fun hHeld => ?_)
  refine wpAnyH_take (i := 0) (v := ?_) rfl (by kernel_rfl) (by kernel_rfl) (by kernel_rfl) (fun _ _ _ h => h) (Or.inl ⟨by rfl, ?_⟩) hHeld ?_
  rotate_left
  · (intro w hSw; (try dsimp only at hSw); go_simp) <;> with_reducible rfl
  (try simp only [Act.put, List.setIfInBounds_toArray, List.set_cons_zero, List.set_cons_succ])
  refine wpAnyH_take (i := 1) (v := ?_) rfl (by kernel_rfl) (by kernel_rfl) (by kernel_rfl) (fun _ _ _ h => h) (Or.inl ⟨by rfl, ?_⟩) hHeld ?_
  rotate_left
  · (intro w hSw; (try dsimp only at hSw); go_simp) <;> with_reducible rfl
  (try simp only [Act.put, List.setIfInBounds_toArray, List.set_cons_zero, List.set_cons_succ])
  refine wpAnyH_take (i := 2) (v := ?_) rfl (by kernel_rfl) (by kernel_rfl) (by kernel_rfl) (fun _ _ _ h => h) (Or.inl ⟨by rfl, ?_⟩) hHeld ?_
  rotate_left
  · (intro w hSw; (try dsimp only at hSw); go_simp) <;> with_reducible rfl
  (try simp only [Act.put, List.setIfInBounds_toArray, List.set_cons_zero, List.set_cons_succ])
  refine wpAnyH_take (i := 3) (v := ?_) rfl (by kernel_rfl) (by kernel_rfl) (by kernel_rfl) (fun _ _ _ h => h) (Or.inl ⟨by rfl, ?_⟩) hHeld ?_
  rotate_left
  · (intro w hSw; (try dsimp only at hSw); go_simp) <;> with_reducible rfl
  (try simp only [Act.put, List.setIfInBounds_toArray, List.set_cons_zero, List.set_cons_succ])
  refine wpAnyH_take (i := 5) (v := ?_) rfl (by kernel_rfl) (by kernel_rfl) (by kernel_rfl) (fun _ _ _ h => h) (Or.inl ⟨by rfl, ?_⟩) hHeld ?_
  rotate_left
  · (intro w hSw; (try dsimp only at hSw); go_simp) <;> with_reducible rfl
  (try simp only [Act.put, List.setIfInBounds_toArray, List.set_cons_zero, List.set_cons_succ])
  refine wpAnyH_take (i := 6) (v := ?_) rfl (by kernel_rfl) (by kernel_rfl) (by kernel_rfl) (fun _ _ _ h => h) (Or.inl ⟨by rfl, ?_⟩) hHeld ?_
  rotate_left
  · (intro w hSw; (try dsimp only at hSw); go_simp) <;> with_reducible rfl
  (try simp only [Act.put, List.setIfInBounds_toArray, List.set_cons_zero, List.set_cons_succ])
  refine wpAnyH_take (i := 7) (v := ?_) rfl (by kernel_rfl) (by kernel_rfl) (by kernel_rfl) (fun _ _ _ h => h) (Or.inl ⟨by rfl, ?_⟩) hHeld ?_
  rotate_left
  · (intro w hSw; (try dsimp only at hSw); go_simp) <;> with_reducible rfl
  (try simp only [Act.put, List.setIfInBounds_toArray, List.set_cons_zero, List.set_cons_succ])
  refine wpAnyH_take (i := 8) (v := ?_) rfl (by kernel_rfl) (by kernel_rfl) (by kernel_rfl) (fun _ _ _ h => h) (Or.inl ⟨by rfl, ?_⟩) hHeld ?_
  rotate_left
  · (intro w hSw; (try dsimp only at hSw); go_simp) <;> with_reducible rfl
  (try simp only [Act.put, List.setIfInBounds_toArray, List.set_cons_zero, List.set_cons_succ])
  refine wpAnyH_take (i := 10) (v := ?_) rfl (by kernel_rfl) (by kernel_rfl) (by kernel_rfl) (fun _ _ _ h => h) (Or.inl ⟨by rfl, ?_⟩) hHeld ?_
  rotate_left
  · (intro w hSw; (try dsimp only at hSw); go_simp) <;> with_reducible rfl
  (try simp only [Act.put, List.setIfInBounds_toArray, List.set_cons_zero, List.set_cons_succ])
  refine wpAnyH_take (i := 11) (v := ?_) rfl (by kernel_rfl) (by kernel_rfl) (by kernel_rfl) (fun _ _ _ h => h) (Or.inl ⟨by rfl, ?_⟩) hHeld ?_
  rotate_left
  · (intro w hSw; (try dsimp only at hSw); go_simp) <;> with_reducible rfl
  (try simp only [Act.put, List.setIfInBounds_toArray, List.set_cons_zero, List.set_cons_succ])
  refine wpAnyH_take (i := 12) (v := ?_) rfl (by kernel_rfl) (by kernel_rfl) (by kernel_rfl) (fun _ _ _ h => h) (Or.inl ⟨by rfl, ?_⟩) hHeld ?_
  rotate_left
  · (intro w hSw; (try dsimp only at hSw); go_simp) <;> with_reducible rfl
  (try simp only [Act.put, List.setIfInBounds_toArray, List.set_cons_zero, List.set_cons_succ])
  refine wpAnyH_take (i := 13) (v := ?_) rfl (by kernel_rfl) (by kernel_rfl) (by kernel_rfl) (fun _ _ _ h => h) (Or.inl ⟨by rfl, ?_⟩) hHeld ?_
  rotate_left
  · (intro w hSw; (try dsimp only at hSw); go_simp) <;> with_reducible rfl
  (try simp only [Act.put, List.setIfInBounds_toArray, List.set_cons_zero, List.set_cons_succ])
  refine wpAnyH_ready (rs := [4]) (by kernel_rfl) (by simp) ?_
  refine (AllReadyH.cons rfl (fun K hK => ?_) AllReadyH.nil)
  · go_simp
    refine (rclone_any R _ _ _ (HI.out.grew ((Chg.refl NoF w).drew)).rows).mono ?_
    rintro e wa ⟨rfl, hm, hg⟩
    have HR := Lib.hid hm
    have HSwa := Lib.hid hg
    have HGwa := Lib.hid (show Grew w wa from Grew.trans ((Chg.refl NoF w).drew) hg)
    have hzwa := hg.size
    have hlR := hm.lt
    simp only [World.size_drew] at *
    clear hm hg
    refine hK.out _ _ (fun B i hB => HGwa.out.cell (p := ⟨B, i, none⟩) hB id) (fun hHeld1 => ?_)
    clear hK K
    (try simp only [Act.put, List.setIfInBounds_toArray, List.set_cons_zero, List.set_cons_succ])
    refine wpAnyH_ready (rs := [9]) (by kernel_rfl) (by simp) ?_
    refine (AllReadyH.cons rfl (fun K hK => ?_) AllReadyH.nil)
    · go_simp
      refine (qcopy_any qb l A c M added _ (HI.out.grew HGwa.out).q hll).mono ?_
      rintro e wb ⟨qn, An, cn, Mn, rfl, hm, hg, hge⟩
      have HQ := Lib.hid hm
      have HQe := Lib.hid hge
      have hqM := hge Mn (.inr (.inl rfl))
      have hqL := QF_lt hm.isIn Mn (.inr (.inl rfl))
      have HSwb := Lib.hid hg
      have HGwb := Lib.hid (show Grew w wb from Grew.trans HGwa.out hg)
      have hzwb := hg.size
      clear hm hg hge
      refine hK.out _ _ (fun B i hB => HGwb.out.cell (p := ⟨B, i, none⟩) hB id) (fun hHeld2 => ?_)
      clear hK K
      (try simp only [Act.put, List.setIfInBounds_toArray, List.set_cons_zero, List.set_cons_succ])
      refine wpAnyH_ready (rs := [14]) (by kernel_rfl) (by simp) ?_
      refine (AllReadyH.cons rfl (fun K hK => ?_) AllReadyH.nil)
      · go_simp
        refine (mclone_any T _ _ _ (HI.out.grew HGwb.out).ats).mono ?_
        rintro e wc ⟨rfl, hm, hg⟩
        have HT := Lib.hid hm
        have HSwc := Lib.hid hg
        have HGwc := Lib.hid (show Grew w wc from Grew.trans HGwb.out hg)
        have hzwc := hg.size
        have hlT := hm.lt
        clear hm hg
        refine hK.out _ _ (fun B i hB => HGwc.out.cell (p := ⟨B, i, none⟩) hB id) (fun hHeld3 => ?_)
        clear hK K
        (try simp only [Act.put, List.setIfInBounds_toArray, List.set_cons_zero, List.set_cons_succ])
        refine wpAnyH_take (i := 15) (v := ?_) rfl (by kernel_rfl) (by kernel_rfl) (by kernel_rfl) (fun _ _ _ h => h) (Or.inl ⟨by rfl, ?_⟩) hHeld3 ?_
        rotate_left
        · (intro w hSw; (try dsimp only at hSw); go_simp) <;> with_reducible rfl
        (try simp only [Act.put, List.setIfInBounds_toArray, List.set_cons_zero, List.set_cons_succ])
        refine wpAnyH_ready (rs := [16]) (by kernel_rfl) (by simp) ?_
        refine AllReadyH.cons rfl (fun K hK => ?_) AllReadyH.nil
        go_simp
        refine hK.out _ _ (fun B i hB => (HGwc.out.alloc _).cell (p := ⟨B, i, none⟩) hB id) (fun hHeld4 => ?_)
        clear hK K
        (try simp only [Act.put, List.setIfInBounds_toArray, List.set_cons_zero, List.set_cons_succ])
        refine wpAnyH_ready (rs := [17]) (by kernel_rfl) (by simp) ?_
        refine AllReadyH.cons rfl (fun K hK => ?_) AllReadyH.nil
        go_simp
        refine hK.out _ _ hHeld4 (fun _ => ?_)
        clear hK K
        (try simp only [Act.put, List.setIfInBounds_toArray, List.set_cons_zero, List.set_cons_succ])
        refine wpAnyH_done (by kernel_rfl) ?_ _
        go_wp2
        go_ret
        exact rcopy_done (HR.out.grew (Grew.trans HSwb.out HSwc.out)) HT.out (HQ.out.grew HSwc.out) HGwc.out (by omega) (by omega) (fun j hj => Nat.le_trans (by omega) (HQe.out j hj)) ⟨by omega, by omega, by omega⟩ HP.out.1 HP.out.2.1 HP.out.2.2 rfl

end Go.Proofs.Ytjpkpckgkhbfpaa
