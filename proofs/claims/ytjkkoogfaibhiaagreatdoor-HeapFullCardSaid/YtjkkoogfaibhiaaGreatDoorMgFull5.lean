/- Texts 5 of 8 that the proof of Full stands on. -/
import Derived.Test.YtjkkoogfaibhiaaGreatDoorMgFull4
import Derived.Lib.AppendZerosOnto
import Derived.Deep.LoopGhost
import Derived.Sort.LoopGhostIn
import Derived.BigGuardIn
set_option linter.unusedSimpArgs false
set_option linter.unusedVariables false

/- Slotted pages in memory: New, length, has, empty, Room, check. -/
namespace Go.Proofs.YtjkkoogfaibhiaaGreatDoor
open Go.RowKit Go.Maps

/-- A slotted page in memory: its blocks are lo or above. -/
structure PgAt (W : World) (lo b sz : Nat) (s : Sls) (A : Option Addr) (c : Nat) (vs : List Value) : Prop where
  blk : Blk W b 115 #[.int .i64 sz, .slice A s.length c]
  row : W.ownsRow lo 34 1 (.slice A s.length c) s.length vs
  at_ : ∀ (i : Nat) b', s[i]? = some b' → ∃ v, vs[i]? = some v ∧ W.ownsRow lo 5 1 v b'.length (bv b')
  lo : lo ≤ b
def Pg (W : World) (lo b sz : Nat) (s : Sls) : Prop := ∃ A c vs, PgAt W lo b sz s A c vs
section
variable {W W' : World} {lo b sz : Nat} {s : Sls} {A : Option Addr} {c : Nat} {vs : List Value} {F : Nat → Prop}
theorem PgAt.chg (h : PgAt W lo b sz s A c vs) (hc : Chg F W W') (hF : ∀ j, lo ≤ j → ¬ F j) : PgAt W' lo b sz s A c vs :=
  ⟨h.blk.chg hc (hF b h.lo), own_chg h.row hc fun g hg => hF g (h.row.lt g hg).1, fun i b' hi => by
    obtain ⟨v, h1, h2⟩ := h.at_ i b' hi
    exact ⟨v, h1, own_chg h2 hc fun g hg => hF g (h2.lt g hg).1⟩, h.lo⟩
theorem PgAt.grew (h : PgAt W lo b sz s A c vs) (hc : Grew W W') : PgAt W' lo b sz s A c vs := h.chg hc fun _ _ => id
theorem Pg.chg (h : Pg W lo b sz s) (hc : Chg F W W') (hF : ∀ j, lo ≤ j → ¬ F j) : Pg W' lo b sz s := by
  obtain ⟨A, c, vs, h⟩ := h
  exact ⟨A, c, vs, h.chg hc hF⟩
theorem Pg.grew (h : Pg W lo b sz s) (hc : Grew W W') : Pg W' lo b sz s := h.chg hc fun _ _ => id
theorem PgAt.low (h : PgAt W lo b sz s A c vs) {lo' : Nat} (hl : lo' ≤ lo) : PgAt W lo' b sz s A c vs :=
  ⟨h.blk, own_base h.row hl, fun i b' hi => by
    obtain ⟨v, h1, h2⟩ := h.at_ i b' hi
    exact ⟨v, h1, own_base h2 hl⟩, Nat.le_trans hl h.lo⟩
theorem Pg.low (h : Pg W lo b sz s) {lo' : Nat} (hl : lo' ≤ lo) : Pg W lo' b sz s := by
  obtain ⟨A, c, vs, h⟩ := h
  exact ⟨A, c, vs, h.low hl⟩
theorem PgAt.cell (h : PgAt W lo b sz s A c vs) {i : Nat} {b' : List Int} (hi : s[i]? = some b') : ∃ g Ai ci, A = some ⟨g, 0, none⟩ ∧ g < W.heap.size ∧ lo ≤ g ∧ W.cell? ⟨g, i, none⟩ = some (.slice Ai b'.length ci) ∧ W.ownsRow lo 5 1 (.slice Ai b'.length ci) b'.length (bv b') := by
  have hil := (List.getElem?_eq_some_iff.1 hi).1
  obtain ⟨g, rfl, hg⟩ := own_block h.row (by omega)
  obtain ⟨v, h1, h2⟩ := h.at_ i b' hi
  obtain ⟨Ai, ci, rfl, -⟩ := own_shape h2
  have h3 := h.row.cells (g := g) rfl i _ h1
  rw [Addr.add_lit, Nat.zero_add] at h3
  exact ⟨g, Ai, ci, rfl, hg, (h.row.lt g rfl).1, h3, h2⟩
end
theorem snew_any (sz : Nat) (w : World) (h1 : 16 ≤ sz) (h2 : sz ≤ 4096) :
    Calls Tryz.prog 64 #[.int .i64 sz] w fun e w' => e = .returned (.pointer (some ⟨w.heap.size, 0, none⟩)) ∧ PgAt w' w.heap.size w.heap.size sz [] none 0 [] ∧ Grew w w' := by
  have t1 : decide ((sz : Int) < 16) = false := decide_eq_false (by omega)
  have t2 : decide ((4096 : Int) < (sz : Int)) = false := decide_eq_false (by omega)
  go_enter Tryz.func64, Tryz.ntmps64
  go_wp2
  go_ret
  exact ⟨rfl, ⟨Blk.new w _ _, World.ownsRow_nil _ _ _ _, fun i b' h => by simp at h, Nat.le_refl _⟩, (Chg.refl _ _).alloc _⟩
def hasS (s : Sls) (i : Nat) : Bool := match s[i]? with | some b => decide (b ≠ []) | none => false
theorem has_any (lo b sz i : Nat) (s : Sls) (w : World) (h : Pg w lo b sz s) (hi : i ≤ 1000000) (hl : s.length ≤ 1000000) :
    Calls Tryz.prog 69 #[.pointer (some ⟨b, 0, none⟩), .int .i64 i] w fun e w' => e = .returned (.bool (hasS s i)) ∧ w = w' := by
  obtain ⟨A, c, vs, h⟩ := h
  obtain ⟨c0, f0, s0⟩ := h.blk.facts
  have t1 : decide ((0 : Int) ≤ (i : Int)) = true := decide_eq_true (by omega)
  cases hsi : s[i]? with
  | none =>
    have hn : s.length ≤ i := List.getElem?_eq_none_iff.1 hsi
    have t2 : decide ((i : Int) < (s.length : Int)) = false := decide_eq_false (by omega)
    have hv : hasS s i = false := by unfold hasS; rw [hsi]
    rw [hv]
    clear h hsi hv
    go_enter Tryz.func69, Tryz.ntmps69
    go_wp2
    go_ret
    exact ⟨rfl, rfl⟩
  | some b' =>
    have hn := (List.getElem?_eq_some_iff.1 hsi).1
    have t2 : decide ((i : Int) < (s.length : Int)) = true := decide_eq_true (by omega)
    obtain ⟨g, Ai, ci, rfl, hg, -, hc, -⟩ := h.cell hsi
    have hv : hasS s i = decide (0 < b'.length) := by
      unfold hasS
      rw [hsi]
      cases b' with
      | nil => rfl
      | cons a t => simp
    rw [hv]
    clear h hsi hv
    go_enter Tryz.func69, Tryz.ntmps69
    go_wp2
    go_ret
    exact ⟨rfl, rfl⟩
theorem check_any (A : Option Addr) (n c : Nat) (w : World) (h1 : 1 ≤ n) (h2 : n ≤ 16384) :
    Calls Tryz.prog 94 #[.slice A n c] w fun e w' => e = .returned (.bool true) ∧ w = w' := by
  have t1 : decide ((0 : Int) < (n : Int)) = true := decide_eq_true (by omega)
  have t2 : decide ((n : Int) ≤ 16384) = true := decide_eq_true (by omega)
  go_enter Tryz.func94, Tryz.ntmps94
  go_wp2
  go_ret
  exact ⟨rfl, rfl⟩
theorem lenS_take {s : Sls} {k : Nat} {b : List Int} (h : s[k]? = some b) : lenS (s.take (k + 1)) = lenS (s.take k) + (2 + b.length) := by
  rw [List.take_add_one, h]
  exact (lenS_app _ _).trans (by omega)
theorem lenS_take_le (s : Sls) (k : Nat) : lenS (s.take k) ≤ lenS s := by
  unfold lenS
  conv => rhs; rw [← List.take_append_drop k s, List.map_append, List.sum_append]
  omega
set_option maxHeartbeats 800000 in
theorem length_any (lo b sz : Nat) (s : Sls) (w : World) (h : Pg w lo b sz s) (hl : lenS s ≤ 1000000) (hl2 : s.length ≤ 1000000) :
    Calls Tryz.prog 123 #[.pointer (some ⟨b, 0, none⟩)] w fun e w' => e = .returned (.int .i64 (lenS s)) ∧ w = w' := by
  obtain ⟨A, c, vs, h⟩ := h
  obtain ⟨c0, f0, s0⟩ := h.blk.facts
  have H := Lib.hid h
  have HL := Lib.hid (fun k => lenS_take_le s k)
  clear h
  go_enter Tryz.func123, Tryz.ntmps123
  go_wp2
  go_loop [3, 5, 11] (fun n x i => ∃ k : Nat, k ≤ s.length ∧ i = .int .i64 k ∧ n = .int .i64 (lenS (s.take k))) (fun _ _ i => s.length - (intOf i).toNat)
  case atStart => exact ⟨0, Nat.zero_le _, rfl, rfl⟩
  case round =>
    obtain ⟨k, hk, rfl, rfl⟩ := hrel
    obtain ⟨m, hm⟩ : ∃ m, lenS (s.take k) = m := ⟨_, rfl⟩
    have hm2 := HL.out k
    rw [hm] at hm2 ⊢
    by_cases hlt : k < s.length
    · obtain ⟨b', hb⟩ : ∃ b', s[k]? = some b' := ⟨_, List.getElem?_eq_getElem hlt⟩
      obtain ⟨g, Ai, ci, rfl, hg, -, hc, -⟩ := H.out.cell hb
      have h3 := lenS_take hb
      rw [hm] at h3
      have h4 := HL.out (k + 1)
      rw [h3] at h4
      have H3 := Lib.hid h3
      clear h3 hb hm
      go_wp2
      exact ⟨⟨k + 1, by omega, by simp, by rw [H3.out]; simp⟩, by simp [intOf]; omega⟩
    · obtain rfl : k = s.length := by omega
      rw [List.take_length] at hm
      subst hm
      go_wp2
      go_ret
      exact ⟨rfl, rfl⟩
theorem empty1_any (A : Option Addr) (n c : Nat) (w : World) (hn : n ≤ 1000000) : Calls Tryz.prog 125 #[.slice A n c] w fun e w' => e = .returned (.bool (decide (n = 0))) ∧ w = w' := by
  have h0 : ((n : Int) == 0) = decide (n = 0) := by
    by_cases h : n = 0
    · simp [h]
    · simp [h]
  go_enter Tryz.func125, Tryz.ntmps125
  go_wp2
  go_ret
  exact ⟨by rw [← h0]; rfl, rfl⟩
set_option maxHeartbeats 800000 in
theorem sidx_any (lo b sz : Nat) (s : Sls) (A : Option Addr) (c : Nat) (vs : List Value) (w : World) (h : PgAt w lo b sz s A c vs) (hl : s.length ≤ 1000) (hb : ∀ b' ∈ s, b'.length ≤ 1000000) :
    Calls Tryz.prog 124 #[.slice A s.length c, .func (.func 125) #[] #[]] w fun e w' => e = .returned (.int .i64 (if empS s < s.length then (empS s : Int) else -1)) ∧ w = w' := by
  have H := Lib.hid (And.intro h hb)
  obtain ⟨r, hr⟩ : ∃ r : Int, (if empS s < s.length then (empS s : Int) else -1) = r := ⟨_, rfl⟩
  rw [hr]
  have HR := Lib.hid hr
  clear h hb hr
  go_enter Tryz.func124, Tryz.ntmps124
  go_wp2
  go_loop [5, 8] (fun x i => ∃ k : Nat, k ≤ empS s ∧ i = .int .i64 k) (fun _ i => s.length - (intOf i).toNat)
  case atStart => exact ⟨0, Nat.zero_le _, rfl⟩
  case round =>
    obtain ⟨k, hk, rfl⟩ := hrel
    have hle := empS_le s
    by_cases hlt : k < s.length
    · obtain ⟨b', hb'⟩ : ∃ b', s[k]? = some b' := ⟨_, List.getElem?_eq_getElem hlt⟩
      have hbl := H.out.2 b' (List.mem_of_getElem? hb')
      obtain ⟨g, Ai, ci, rfl, hg, -, hc, -⟩ := H.out.1.cell hb'
      by_cases hke : k = empS s
      · have h0 : b' = [] := by
          have := empS_at (s := s) (by omega)
          rw [← hke, hb'] at this
          simpa using this
        obtain rfl : r = (k : Int) := by rw [← HR.out, if_pos (by omega), hke]
        subst h0
        clear hb' hke
        go_wp2_with (go_at_call 125; refine (empty1_any _ _ _ _ (by simp)).mono ?_; rintro e w1 ⟨rfl, rfl⟩)
        go_ret
        exact ⟨rfl, rfl⟩
      · have h0 : decide (b'.length = 0) = false := by
          refine decide_eq_false fun e => ?_
          have h1 := List.not_of_lt_findIdx (xs := s) (p := List.isEmpty) (i := k) (show k < empS s by omega)
          rw [(List.getElem?_eq_some_iff.1 hb').2] at h1
          rw [List.eq_nil_of_length_eq_zero e] at h1
          simp at h1
        have hk2 : k + 1 ≤ empS s := by omega
        clear hb' hke
        go_wp2_with (go_at_call 125; refine (empty1_any _ _ _ _ hbl).mono ?_; rintro e w1 ⟨rfl, rfl⟩; rw [h0])
        exact ⟨⟨k + 1, by omega, by simp⟩, by simp [intOf]; omega⟩
    · have hke : empS s = s.length := by omega
      obtain rfl : r = -1 := by rw [← HR.out, if_neg (by omega)]
      obtain rfl : k = s.length := by omega
      go_wp2
      go_ret
      exact ⟨rfl, rfl⟩
set_option maxHeartbeats 800000 in
theorem empty_any (lo b sz : Nat) (s : Sls) (w : World) (h : Pg w lo b sz s) (hl : s.length ≤ 1000) (hb : ∀ b' ∈ s, b'.length ≤ 1000000) :
    Calls Tryz.prog 96 #[.pointer (some ⟨b, 0, none⟩)] w fun e w' => e = .returned (.int .i64 (empS s)) ∧ w = w' := by
  obtain ⟨A, c, vs, h⟩ := h
  obtain ⟨c0, f0, s0⟩ := h.blk.facts
  have H := Lib.hid (sidx_any lo b sz s A c vs w h hl hb)
  have hle := empS_le s
  clear h hb
  by_cases hlt : empS s < s.length
  · have hif : (if empS s < s.length then (empS s : Int) else -1) = (empS s : Int) := if_pos hlt
    rw [hif] at H
    have t1 : decide ((empS s : Int) < 0) = false := decide_eq_false (by omega)
    clear hif
    go_enter Tryz.func96, Tryz.ntmps96
    go_wp2_with fail
    refine H.out.mono ?_
    rintro e w1 ⟨rfl, rfl⟩
    go_wp2_with fail
    go_ret
    exact ⟨rfl, rfl⟩
  · have hif : (if empS s < s.length then (empS s : Int) else -1) = -1 := if_neg hlt
    rw [hif] at H
    have he : empS s = s.length := by omega
    rw [he]
    clear hif hlt hle he
    go_enter Tryz.func96, Tryz.ntmps96
    go_wp2_with fail
    refine H.out.mono ?_
    rintro e w1 ⟨rfl, rfl⟩
    go_wp2_with fail
    go_ret
    exact ⟨rfl, rfl⟩
end Go.Proofs.YtjkkoogfaibhiaaGreatDoor

/- Slotted pages in memory: Room, Get, Put. -/
namespace Go.Proofs.YtjkkoogfaibhiaaGreatDoor
open Go.RowKit Go.Maps

theorem rowInfo_ : (Tryz.prog.info? 34).map (fun i => (i.zero, i.size, i.bytes)) = some (some (.slice none 0 0), 1, 24) := by kernel_rfl
theorem app_row {w : World} {ops : Array Oper} {rest : List Oper} {o : Oper} {a : Act} {Q : Exit → Act → World → Prop} (hgd : o.guard = none) (s x : Operand)
    (ho : o.op = .call { callee := .builtin .append, args := #[s, x], argTypes := #[94, 94] }) (base : Nat) (v : Value) (n : Nat) (xs : List Value) (hs : a.eval s = v) (hown : w.ownsRow base 34 1 v n xs)
    (u : Value) (hu : u.oneCell' = true) (hx : a.eval x = .slice (some ⟨w.heap.size, 0, none⟩) 1 1) (hn : n ≤ 1000000) (hb : base ≤ w.heap.size)
    (h : ∀ v' w', w'.ownsRow base 34 1 v' (n + 1) (xs ++ [u]) → Ap w w' v v' → wpList Tryz.prog ops Q rest (a.put o.dst v') w') :
    wpList Tryz.prog ops Q (o :: rest) a (w.alloc (.cells #[u] 34)) := by
  obtain ⟨i0, hi0, hz0, hz1, hz2⟩ := info_parts rowInfo_
  refine wpList_append_own_at _ hgd s x 94 ho base 34 i0 _ 1 24 Tryz.underlying94 hi0 hz0 hz1 hz2 rfl (by omega) v n xs hs (own_grew hown ((Chg.refl _ _).alloc _)) ⟨w.heap.size, 0, none⟩ 1 1 [u] hx rfl (news_one _ _ _) (by simpa using hu) (by simp only [maxLen]; omega) (by omega) (by simp; omega) ?_
  intro v1 w1 h1 h2 _ h4
  exact h v1 w1 h1 ((Ap.refl _ _).push ((Chg.refl _ _).alloc _) h2 h4)
theorem step_app_row {w : World} {ops : Array Oper} {o : Oper} {a : Act} {K : Act → World → Prop} {Q : Exit → Act → World → Prop} {E : Prop} (hgd : o.guard = none) (s x : Operand)
    (ho : o.op = .call { callee := .builtin .append, args := #[s, x], argTypes := #[94, 94] }) (base : Nat) (v : Value) (n : Nat) (xs : List Value) (hs : a.eval s = v) (hown : w.ownsRow base 34 1 v n xs)
    (u : Value) (hu : u.oneCell' = true) (hx : a.eval x = .slice (some ⟨w.heap.size, 0, none⟩) 1 1) (hn : n ≤ 1000000) (hb : base ≤ w.heap.size)
    (h : ∀ v' w', w'.ownsRow base 34 1 v' (n + 1) (xs ++ [u]) → Ap w w' v v' → K (a.put o.dst v') w') :
    if Region.wanted o (yielded ops a.tmps) = true then Oper.wp Tryz.prog o a (w.alloc (.cells #[u] 34)) K Q else E := by
  obtain ⟨i0, hi0, hz0, hz1, hz2⟩ := info_parts rowInfo_
  obtain ⟨v1, w1, hr, h1, h2, _, h4⟩ := run_append_own_at (P := Tryz.prog) (w.alloc (.cells #[u] 34)) base 94 o.type 34 i0 _ 1 24 Tryz.underlying94 hi0 hz0 hz1 hz2 rfl (by omega) v n xs (own_grew hown ((Chg.refl _ _).alloc _)) ⟨w.heap.size, 0, none⟩ 1 1 [u] rfl (news_one _ _ _) (by simpa using hu) (by simp only [maxLen]; omega) (by omega) (by simp; omega)
  exact step_append_run hgd s x 94 ho hs hx hr (h v1 w1 h1 ((Ap.refl _ _).push ((Chg.refl _ _).alloc _) h2 h4))

def roomS (s : Sls) (sz : Nat) : Nat := if empS s = s.length then (if s.length = 63 then 0 else sz - lenS s - 2) else sz - lenS s
theorem fits_room {s : Sls} {n sz : Nat} (h : SFit s sz) (hn : 1 ≤ n) : fitsS s n sz ↔ n ≤ roomS s sz := by
  have h1 := h.len
  have h2 := h.few
  unfold fitsS roomS
  split
  · split <;> omega
  · omega
theorem SFit.bl {s : Sls} {sz : Nat} (h : SFit s sz) : ∀ b ∈ s, b.length ≤ sz := fun b hb => by
  obtain ⟨i, hi⟩ := List.mem_iff_getElem?.1 hb
  have h1 := lenS_set [] hi
  have h2 := lenS_take_le (s.set i []) 0
  have h3 := h.len
  simp at h1
  unfold lenS at h2
  simp at h2
  unfold lenS at h1 h3
  omega
set_option maxHeartbeats 800000 in
theorem room_any (lo b sz : Nat) (s : Sls) (w : World) (h : Pg w lo b sz s) (hf : SFit s sz) (hz : sz ≤ 4096) :
    Calls Tryz.prog 95 #[.pointer (some ⟨b, 0, none⟩)] w fun e w' => e = .returned (.int .i64 (roomS s sz)) ∧ Grew w w' := by
  have hlen := hf.len
  have hfew := hf.few
  have hbl := hf.bl
  obtain ⟨A, c, vs, hp⟩ := h
  have h : Pg w lo b sz s := ⟨A, c, vs, hp⟩
  obtain ⟨c0, f0, s0⟩ := hp.blk.facts
  have HL := Lib.hid (fun u (hg : Grew w u) => length_any lo b sz s u (h.grew hg) (by omega) (by omega))
  have HE := Lib.hid (fun u (hg : Grew w u) => empty_any lo b sz s u (h.grew hg) (by omega) (fun b' hb' => by have := hbl b' hb'; omega))
  have HP := Lib.hid hp
  have hle := empS_le s
  obtain ⟨m, hm⟩ : ∃ m, lenS s = m := ⟨_, rfl⟩
  rw [hm] at HL hlen
  obtain ⟨k, hk⟩ : ∃ k, empS s = k := ⟨_, rfl⟩
  rw [hk] at HE hle
  obtain ⟨r, hr⟩ : ∃ r, roomS s sz = r := ⟨_, rfl⟩
  rw [hr]
  unfold roomS at hr
  rw [hm, hk] at hr
  have HR := Lib.hid hr
  clear h hp hf hbl hm hk hr
  go_enter Tryz.func95, Tryz.ntmps95
  go_wp2_with fail
  go_quiet ((go_at_call 123; exact Calls.quiet_of_same ((HL.out _ ((Chg.refl _ _).drewN _)).mono fun _ _ h => ⟨h.1, h.2.symm⟩)))
  go_wp2_with fail
  refine (HE.out _ ((Chg.refl _ _).drewN nq)).mono ?_
  rintro e w1 ⟨rfl, rfl⟩
  by_cases hks : k = s.length
  · have t1 : ((k : Int) == (s.length : Int)) = true := by simp [hks]
    by_cases h63 : k = 63
    · have t2 : ((k : Int) == 63) = true := by simp [h63]
      have hr0 : r = 0 := by have := HR.out; rw [if_pos hks, if_pos (by omega)] at this; exact this.symm
      clear hks h63
      subst hr0
      go_wp2_with fail
      go_ret
      exact ⟨rfl, (Chg.refl _ _).drewN _⟩
    · have t2 : ((k : Int) == 63) = false := by rw [beq_eq_false_iff_ne]; omega
      have hr0 : max ((sz : Int) - (m : Int) - 2) 0 = (r : Int) := by have := HR.out; rw [if_pos hks, if_neg (by omega)] at this; omega
      have HR0 := Lib.hid hr0
      clear hks h63 hr0
      go_wp2_with fail
      all_goals
        go_ret
        exact ⟨congrArg (fun z : Int => Ending.returned (Value.int .i64 z)) (by have := HR0.out; omega), (Chg.refl _ _).drewN _⟩
  · have t1 : ((k : Int) == (s.length : Int)) = false := by rw [beq_eq_false_iff_ne]; omega
    have hr0 : max ((sz : Int) - (m : Int)) 0 = (r : Int) := by have := HR.out; rw [if_neg hks] at this; omega
    have HR0 := Lib.hid hr0
    clear hks hr0
    go_wp2_with fail
    all_goals
      go_ret
      exact ⟨congrArg (fun z : Int => Ending.returned (Value.int .i64 z)) (by have := HR0.out; omega), (Chg.refl _ _).drewN _⟩
theorem hasS_true {s : Sls} {i : Nat} {b : List Int} (h : s[i]? = some b) (hb : b ≠ []) : hasS s i = true := by
  unfold hasS
  rw [h]
  exact decide_eq_true hb
theorem hasS_false {s : Sls} {i : Nat} (h : ∀ b, s[i]? = some b → b = []) : hasS s i = false := by
  unfold hasS
  cases e : s[i]? with
  | none => rfl
  | some b => exact decide_eq_false (fun hn => hn (h b e))
theorem sget_any (lo b sz i : Nat) (s : Sls) (t : List Int) (w : World) (h : Pg w lo b sz s) (hf : SFit s sz) (hz : sz ≤ 4096) (hi : s[i]? = some t) (ht : t ≠ []) :
    Calls Tryz.prog 66 #[.pointer (some ⟨b, 0, none⟩), .int .i64 i] w fun e w' => OwnOut w w' 5 1 t.length (bv t) (fun A c => .tuple #[.slice A t.length c, .int .i64 0]) e := by
  have hil := (List.getElem?_eq_some_iff.1 hi).1
  have hfew := hf.few
  have htl := hf.bl t (List.mem_of_getElem? hi)
  have ht0 : 0 < t.length := List.length_pos_iff.2 ht
  have HH := Lib.hid (has_any lo b sz i s w h (by omega) (by omega))
  have HV := Lib.hid (hasS_true hi ht)
  obtain ⟨A, c, vs, hp⟩ := h
  obtain ⟨c0, f0, s0⟩ := hp.blk.facts
  obtain ⟨g, Ai, ci, rfl, hg, -, hc, ho⟩ := hp.cell hi
  obtain ⟨gi, rfl, -⟩ := own_block ho ht0
  have HC := Lib.hid (bclone_any (some ⟨gi, 0, none⟩) (by simp) t ci w (by omega) (Sl.of_own ho))
  clear hp hf hi ht ho
  go_enter Tryz.func66, Tryz.ntmps66
  go_wp2_with fail
  refine HH.out.mono ?_
  rintro e w1 ⟨rfl, rfl⟩
  rw [HV.out]
  go_wp2_with fail
  refine HC.out.mono ?_
  rintro e w1 ⟨A2, c2, rfl, ho2, hg2⟩
  have HO := Lib.hid (And.intro ho2 hg2)
  clear ho2 hg2
  go_wp2_with fail
  go_ret2
  exact OwnOut.mk A2 c2 rfl HO.out.1 HO.out.2
theorem sget_none (lo b sz i : Nat) (s : Sls) (w : World) (h : Pg w lo b sz s) (hi : i ≤ 1000000) (hl : s.length ≤ 1000000) (hn : ∀ t, s[i]? = some t → t = []) :
    Calls Tryz.prog 66 #[.pointer (some ⟨b, 0, none⟩), .int .i64 i] w fun e w' => e = .returned (.tuple #[.slice none 0 0, .int .i64 14]) ∧ w = w' := by
  have HH := Lib.hid (has_any lo b sz i s w h hi hl)
  have HV := Lib.hid (hasS_false hn)
  clear h hn
  go_enter Tryz.func66, Tryz.ntmps66
  go_wp2_with fail
  refine HH.out.mono ?_
  rintro e w1 ⟨rfl, rfl⟩
  rw [HV.out]
  go_wp2_with fail
  go_ret2
  exact ⟨rfl, rfl⟩
end Go.Proofs.YtjkkoogfaibhiaaGreatDoor

/- Slotted pages in memory: Put. -/
namespace Go.Proofs.YtjkkoogfaibhiaaGreatDoor
open Go.RowKit Go.Maps

theorem putS1_set (s : Sls) (t : List Int) : putS1 s t = (if empS s = s.length then s ++ [[]] else s).set (empS s) t := by
  unfold putS1
  split
  · rename_i h
    rw [h]
    simp
  · rfl
section
variable {W W' : World} {lo b sz : Nat} {s : Sls} {A : Option Addr} {c : Nat} {vs : List Value}
/-- A slot gets another row. -/
theorem PgAt.set {g i : Nat} {t : List Int} {v : Value} (h : PgAt W lo b sz s (some ⟨g, 0, none⟩) c vs) (hv : W.ownsRow lo 5 1 v t.length (bv t)) (hi : i < s.length) :
    PgAt (W.setCell ⟨g, i, none⟩ v) lo b sz (s.set i t) (some ⟨g, 0, none⟩) c (vs.set i v) := by
  have hc : Chg (fun j => j = g) W (W.setCell ⟨g, i, none⟩ v) := (Chg.refl (fun j => j = g) W).setCell (p := ⟨g, i, none⟩) (fun _ => rfl) v
  have hbg : b ≠ g := fun e => own_blk_ne h.row h.blk (by decide) (by rw [e]; rfl)
  obtain ⟨cur, -, hgc, -⟩ := own_row h.row
  have hgb : Blk W g 34 cur := hgc
  have hu : ∀ (u : Value) n xs, W.ownsRow lo 5 1 u n xs → ∀ q, u.ownBlock = some q → q ≠ g := fun u n xs hr q hq e => own_blk_ne hr hgb (by decide) (by rw [hq, e])
  have hvl : vs.length = s.length := by have := h.row.1; omega
  refine ⟨by rw [List.length_set]; exact h.blk.chg hc hbg, by rw [List.length_set]; exact own_word h.row v, fun k b' hk => ?_, h.lo⟩
  by_cases hki : i = k
  · subst hki
    rw [List.getElem?_set_self hi] at hk
    cases hk
    exact ⟨v, List.getElem?_set_self (by omega), own_chg hv hc fun q hq => hu _ _ _ hv q hq⟩
  · rw [List.getElem?_set_ne hki] at hk
    obtain ⟨u, h1, h2⟩ := h.at_ k b' hk
    exact ⟨u, by rw [List.getElem?_set_ne hki]; exact h1, own_chg h2 hc fun q hq => hu _ _ _ h2 q hq⟩
/-- A row is put behind the others; then the handle is told. -/
theorem PgAt.push {v1 v : Value} {t : List Int} (h : PgAt W lo b sz s A c vs) (ho : W'.ownsRow lo 34 1 v1 (s.length + 1) (vs ++ [v])) (ha : Ap W W' (.slice A s.length c) v1) (hv : W.ownsRow lo 5 1 v t.length (bv t)) (hlo : lo ≤ W.heap.size) :
    ∃ A' c', v1 = .slice A' (s.length + 1) c' ∧ PgAt (W'.setCell ⟨b, 1, none⟩ v1) lo b sz (s ++ [t]) A' c' (vs ++ [v]) ∧ Blk W' b 115 #[.int .i64 sz, .slice A s.length c] ∧ Chg (fun j => lo ≤ j) W (W'.setCell ⟨b, 1, none⟩ v1) := by
  obtain ⟨A', c', rfl, -⟩ := own_shape ho
  have hbo : ∀ q, (Value.slice A s.length c).ownBlock = some q → q ≠ b := fun q hq e => own_blk_ne h.row h.blk (by decide) (by rw [hq, e])
  have hb' : Blk W' b 115 #[.int .i64 sz, .slice A s.length c] := h.blk.chg ha.chg fun e => hbo b e rfl
  have hro : ∀ (u : Value) n xs, W.ownsRow lo 5 1 u n xs → W'.ownsRow lo 5 1 u n xs := fun u n xs hr => own_chg hr ha.chg fun q hq e => by
    obtain ⟨a, hA, rfl⟩ : ∃ a, A = some a ∧ a.block = q := by
      cases A with
      | none => simp [Value.ownBlock] at e
      | some a => simp only [Value.ownBlock, Option.some.injEq] at e; exact ⟨a, rfl, e⟩
    subst hA
    obtain ⟨g, rfl, -⟩ := own_some h.row
    obtain ⟨cur, -, hgc, -⟩ := own_row h.row
    exact own_blk_ne hr (show Blk W g 34 cur from hgc) (by decide) hq
  have hc2 : Chg (fun j => j = b) W' (W'.setCell ⟨b, 1, none⟩ (.slice A' (s.length + 1) c')) := (Chg.refl (fun j => j = b) W').setCell (p := ⟨b, 1, none⟩) (fun _ => rfl) _
  have hvl : vs.length = s.length := by have := h.row.1; omega
  refine ⟨A', c', rfl, ⟨?_, ?_, fun k b' hk => ?_, h.lo⟩, hb', ?_⟩
  · have := hb'.put 1 (.slice A' (s.length + 1) c')
    simpa using this
  · have e : (s ++ [t]).length = s.length + 1 := by simp
    rw [e]
    exact own_chg ho hc2 fun q hq e => by
      subst e
      exact own_blk_ne ho hb' (by decide) hq
  · have hu : ∀ (u : Value) n xs, W.ownsRow lo 5 1 u n xs → (W'.setCell ⟨b, 1, none⟩ (.slice A' (s.length + 1) c')).ownsRow lo 5 1 u n xs := fun u n xs hr => own_chg (hro u n xs hr) hc2 fun q hq e => by
      subst e
      exact own_blk_ne (hro u n xs hr) hb' (by decide) hq
    by_cases hks : k < s.length
    · rw [List.getElem?_append_left hks] at hk
      obtain ⟨u, h1, h2⟩ := h.at_ k b' hk
      exact ⟨u, by rw [List.getElem?_append_left (by omega)]; exact h1, hu _ _ _ h2⟩
    · rw [List.getElem?_append_right (by omega), List.getElem?_singleton] at hk
      split at hk
      · rename_i hk0
        cases hk
        exact ⟨v, by rw [List.getElem?_append_right (by omega), show k - vs.length = 0 by omega]; rfl, hu _ _ _ hv⟩
      · cases hk
  · refine Chg.trans (ha.chg.mono fun i hi e => ?_) hc2 fun i hi e => by subst e; exact h.lo
    exact (h.row.lt i e).1
end
def SPut (w w' : World) (lo b sz : Nat) (s : Sls) (t : List Int) (e : Ending) : Prop :=
  (fitsS s t.length sz ∧ e = .returned (.tuple #[.int .i64 (empS s), .int .i64 0]) ∧ Pg w' lo b sz (putS1 s t) ∧ Chg (fun j => lo ≤ j) w w') ∨
  (¬ fitsS s t.length sz ∧ e = .returned (.tuple #[.int .i64 0, .int .i64 21]) ∧ Grew w w')
set_option maxRecDepth 100000 in
set_option maxHeartbeats 1600000 in
theorem sput_any (lo b sz : Nat) (s : Sls) (t : List Int) (A0 : Option Addr) (k0 : Nat) (w : World) (h : Pg w lo b sz s) (hf : SFit s sz) (hz : sz ≤ 4096) (hs : Sl w 1 A0 t.length (bv t)) (h1 : 1 ≤ t.length) (h2 : t.length ≤ 16384) (hA0 : ∀ a, A0 = some a → a.block < lo) :
    Calls Tryz.prog 63 #[.pointer (some ⟨b, 0, none⟩), .slice A0 t.length k0] w fun e w' => SPut w w' lo b sz s t e := by
  have hlen := hf.len
  have hfew := hf.few
  have hbl := hf.bl
  have hle := empS_le s
  have HK := Lib.hid (check_any A0 t.length k0 w h1 h2)
  have HR := Lib.hid (room_any lo b sz s w h hf hz)
  have HE := Lib.hid (fun u (hg : Grew w u) => empty_any lo b sz s u (h.grew hg) (by omega) (fun b' hb' => by have := hbl b' hb'; omega))
  have HFr := Lib.hid (fits_room hf h1)
  have H := Lib.hid (And.intro h (And.intro hs hA0))
  obtain ⟨gA, oA, rfl, -, -⟩ := hs.2 (by omega)
  have hlo : lo ≤ w.heap.size := by obtain ⟨A, c, vs, hp⟩ := h; have := hp.lo; have := hp.blk.lt; omega
  obtain ⟨r, hr⟩ : ∃ r, roomS s sz = r := ⟨_, rfl⟩
  have hr2 : r ≤ 4096 := by rw [← hr]; unfold roomS; split <;> (try split) <;> omega
  rw [hr] at HR HFr
  clear h hf hs hA0 hbl hr
  by_cases hfit : t.length ≤ r
  · have t1 : decide (r < t.length) = false := decide_eq_false (by omega)
    have HF := Lib.hid (HFr.out.2 hfit)
    clear hfit
    go_enter Tryz.func63, Tryz.ntmps63
    go_wp2_with fail
    refine HK.out.mono ?_
    rintro e w1 ⟨rfl, rfl⟩
    go_wp2_with fail
    refine HR.out.mono ?_
    rintro e w1 ⟨rfl, hg1⟩
    have HG1 := Lib.hid hg1
    clear hg1
    go_wp2_with fail
    refine (HE.out w1 HG1.out).mono ?_
    rintro e w2 ⟨rfl, rfl⟩
    obtain ⟨A, c, vs, hp⟩ := H.out.1.grew HG1.out
    obtain ⟨c0, f0, s0⟩ := hp.blk.facts
    have HP := Lib.hid hp
    have HS := Lib.hid (putS1_set s t)
    obtain ⟨k, hk⟩ : ∃ k, empS s = k := ⟨_, rfl⟩
    rw [hk] at HS hle
    have Hk := Lib.hid hk
    clear hp HK HR HE HFr hk
    rw [Hk.out]
    by_cases hks : k = s.length
    case' pos =>
      have t2 : ((k : Int) == (s.length : Int)) = true := by simp [hks]
      have hsz1 := HG1.out.size
      have HL := Lib.hid (show lo ≤ w1.heap.size by omega)
      have hs1000 : s.length ≤ 1000000 := by omega
      clear hsz1
      go_wp2_with (at_builtin; refine app_row rfl _ _ rfl lo _ s.length vs rfl HP.out.row (.slice none 0 0) rfl rfl hs1000 HL.out ?_; intro v1 w3 hown1 hap1; have HO := Lib.hid (HP.out.push (t := []) hown1 hap1 (World.ownsRow_nil _ _ _ _) HL.out); clear hown1 hap1; obtain ⟨A1, c1, rfl, hp3, hb3, hc3⟩ := HO.out; obtain ⟨c3, f3, s3⟩ := hb3.facts; have H3 := Lib.hid (And.intro hp3 hc3); clear hp3 hb3 hc3 HO c0 f0 s0)
      obtain ⟨W4, hW4⟩ : ∃ W, w3.setCell ⟨b, 1, none⟩ (.slice A1 (s.length + 1) c1) = W := ⟨_, rfl⟩
      rw [hW4] at H3 ⊢
      obtain ⟨s4, hs4⟩ : ∃ q, s ++ [[]] = q := ⟨_, rfl⟩
      have hl4 : s4.length ≤ 64 := by rw [← hs4]; simp; omega
      have hi4 : s4[s.length]? = some [] := by rw [← hs4]; simp
      obtain ⟨vs4, hvs4⟩ : ∃ v, vs ++ [Value.slice none 0 0] = v := ⟨_, rfl⟩
      have H4 := Lib.hid (show PgAt W4 lo b sz s4 A1 c1 vs4 ∧ Chg (fun j => lo ≤ j) w W4 ∧ s4.set s.length t = putS1 s t ∧ empS s = s.length from ⟨hs4 ▸ hvs4 ▸ H3.out.1, HG1.out.then H3.out.2, by rw [HS.out, if_pos hks, hs4, hks], by rw [Hk.out, hks]⟩)
      clear H3 HP HS HL hs4 hW4 hvs4 c3 f3 s3 t2 hks hs1000 hle
    case' neg =>
      have t2 : ((k : Int) == (s.length : Int)) = false := by rw [beq_eq_false_iff_ne]; omega
      go_wp2_with fail
      obtain ⟨W4, hW4⟩ : ∃ W, w1 = W := ⟨_, rfl⟩
      obtain ⟨s4, hs4⟩ : ∃ q, s = q := ⟨_, rfl⟩
      obtain ⟨vs4, hvs4⟩ : ∃ v, vs = v := ⟨_, rfl⟩
      obtain ⟨A1, hA1⟩ : ∃ q, A = q := ⟨_, rfl⟩
      obtain ⟨c1, hc1⟩ : ∃ q, c = q := ⟨_, rfl⟩
      have hl4 : s4.length ≤ 64 := by rw [← hs4]; omega
      have hi4 : s4[k]? = some [] := hs4 ▸ Hk.out ▸ empS_at (s := s) (by rw [Hk.out]; omega)
      have H4 := Lib.hid (show PgAt W4 lo b sz s4 A1 c1 vs4 ∧ Chg (fun j => lo ≤ j) w W4 ∧ s4.set k t = putS1 s t ∧ empS s = k from ⟨hW4 ▸ hs4 ▸ hA1 ▸ hc1 ▸ hvs4 ▸ HP.out, hW4 ▸ HG1.out.chg, by rw [HS.out, if_neg hks, hs4], Hk.out⟩)
      rw [hW4]
      clear HP HS hs4 hvs4 hA1 hc1 c0 f0 s0 t2 hks hle
    all_goals
      obtain ⟨g, Ai, ci, rfl, hg4, hgl, hce, -⟩ := H4.out.1.cell hi4
      have hd1 : W4.drew.cell? ⟨b, 1, none⟩ = some (.slice (some ⟨g, 0, none⟩) s4.length c1) := H4.out.1.blk.drew.cell 1
      have hk4 := (List.getElem?_eq_some_iff.1 hi4).1
      have HC := Lib.hid (bclone_any (some ⟨gA, oA, none⟩) (by simp) t k0 W4.drew (by omega) ((H.out.2.1.chg H4.out.2.1 (fun a ha e => by have := H.out.2.2 a ha; omega)).grew ((Chg.refl _ _).drew)))
      refine wp_region_held_drew (S := fun w' => w'.cell? ⟨b, 1, none⟩ = some (.slice (some ⟨g, 0, none⟩) s4.length c1)) (by kernel_rfl) hd1 (fun hHeld => ?_)
      refine wpAnyH_take (i := 0) (v := ?_) rfl (by kernel_rfl) (by kernel_rfl) (by kernel_rfl) (fun _ _ _ h => h) (Or.inl ⟨by rfl, ?_⟩) hHeld ?_
      rotate_left
      · (intro w hSw; (try dsimp only at hSw); go_simp) <;> with_reducible rfl
      (try simp only [Act.put, List.setIfInBounds_toArray, List.set_cons_zero, List.set_cons_succ, List.getElem_toArray, List.getElem_cons_zero, List.getElem_cons_succ])
      refine wpAnyH_take (i := 1) (v := ?_) rfl (by kernel_rfl) (by kernel_rfl) (by kernel_rfl) (fun _ _ _ h => h) (Or.inl ⟨by rfl, ?_⟩) hHeld ?_
      rotate_left
      · (intro w hSw; (try dsimp only at hSw); go_simp) <;> with_reducible rfl
      (try simp only [Act.put, List.setIfInBounds_toArray, List.set_cons_zero, List.set_cons_succ, List.getElem_toArray, List.getElem_cons_zero, List.getElem_cons_succ])
      refine wpAnyH_take (i := 2) (v := ?_) rfl (by kernel_rfl) (by kernel_rfl) (by kernel_rfl) (fun _ _ _ h => h) (Or.inl ⟨by rfl, ?_⟩) hHeld ?_
      rotate_left
      · (intro w hSw; (try dsimp only at hSw); go_simp) <;> with_reducible rfl
      (try simp only [Act.put, List.setIfInBounds_toArray, List.set_cons_zero, List.set_cons_succ, List.getElem_toArray, List.getElem_cons_zero, List.getElem_cons_succ])
      refine wpAnyH_take (i := 3) (v := ?_) rfl (by kernel_rfl) (by kernel_rfl) (by kernel_rfl) (fun _ _ _ h => h) (Or.inl ⟨by rfl, ?_⟩) hHeld ?_
      rotate_left
      · (intro w hSw; (try dsimp only at hSw); go_simp) <;> with_reducible rfl
      (try simp only [Act.put, List.setIfInBounds_toArray, List.set_cons_zero, List.set_cons_succ, List.getElem_toArray, List.getElem_cons_zero, List.getElem_cons_succ])
      refine wpAnyH_take (i := 4) (v := ?_) rfl (by kernel_rfl) (by kernel_rfl) (by kernel_rfl) (fun _ _ _ h => h) (Or.inl ⟨by rfl, ?_⟩) hHeld ?_
      rotate_left
      · (intro w hSw; (try dsimp only at hSw); go_simp) <;> with_reducible rfl
      (try simp only [Act.put, List.setIfInBounds_toArray, List.set_cons_zero, List.set_cons_succ, List.getElem_toArray, List.getElem_cons_zero, List.getElem_cons_succ])
      refine wpAnyH_take (i := 5) (v := ?_) rfl (by kernel_rfl) (by kernel_rfl) (by kernel_rfl) (fun _ _ _ h => h) (Or.inl ⟨by rfl, ?_⟩) hHeld ?_
      rotate_left
      · (intro w hSw; (try dsimp only at hSw); go_simp) <;> with_reducible rfl
      (try simp only [Act.put, List.setIfInBounds_toArray, List.set_cons_zero, List.set_cons_succ, List.getElem_toArray, List.getElem_cons_zero, List.getElem_cons_succ])
      refine wpAnyH_ready (rs := [6]) (by kernel_rfl) (by simp) ?_
      refine AllReadyH.cons rfl (fun K hK => ?_) AllReadyH.nil
      go_simp
      refine HC.out.mono ?_
      rintro e w5 ⟨A5, c5, rfl, ho5, hg5⟩
      have hg45 : Grew W4 w5 := Grew.trans ((Chg.refl NoF W4).drew) hg5
      have hp5 := H4.out.1.grew hg45
      have hd5 : w5.cell? ⟨b, 1, none⟩ = some (.slice (some ⟨g, 0, none⟩) s4.length c1) := hp5.blk.cell 1
      obtain ⟨g', Ai', ci', e', hg5', -, hce5, -⟩ := hp5.cell hi4
      cases e'
      have hfr5 := Blk.frozen (own_row hp5.row).choose_spec.2.1
      have hbg : b ≠ g := fun e => own_blk_ne hp5.row hp5.blk (by decide) (by rw [e]; rfl)
      have ho5' : w5.ownsRow lo 5 1 (.slice A5 t.length c5) t.length (bv t) := own_base ho5 (by have := H4.out.2.1.size; show lo ≤ W4.heap.size; omega)
      have H5 := Lib.hid (And.intro hp5 (And.intro ho5' hg45))
      clear ho5 hg5 hp5 ho5'
      refine hK.out _ _ hd5 (fun _ => ?_)
      clear hK K
      (try simp only [Act.put, List.setIfInBounds_toArray, List.set_cons_zero, List.set_cons_succ, List.getElem_toArray, List.getElem_cons_zero, List.getElem_cons_succ])
      refine wpAnyH_take (i := 7) (v := ?_) rfl (by kernel_rfl) (by kernel_rfl) (by kernel_rfl) (fun _ _ _ h => h) (Or.inl ⟨by rfl, ?_⟩) hd5 ?_
      rotate_left
      · (intro w hSw; (try dsimp only at hSw); go_simp) <;> with_reducible rfl
      (try simp only [Act.put, List.setIfInBounds_toArray, List.set_cons_zero, List.set_cons_succ, List.getElem_toArray, List.getElem_cons_zero, List.getElem_cons_succ])
      refine wpAnyH_ready (rs := [8]) (by kernel_rfl) (by simp) ?_
      refine AllReadyH.cons rfl (fun K hK => ?_) AllReadyH.nil
      go_simp
      have hp6 := H5.out.1.set H5.out.2.1 hk4
      have hc6 := fun i => (Chg.refl (fun j => j = g) w5).setCell (p := ⟨g, i, none⟩) (fun _ => rfl) (.slice A5 t.length c5)
      first | (have hc7 := hc6 s.length; have hW7 : w5.setCell ⟨g, s.length, none⟩ (.slice A5 t.length c5) = w5.setCell ⟨g, s.length, none⟩ (.slice A5 t.length c5) := rfl; generalize w5.setCell ⟨g, s.length, none⟩ (.slice A5 t.length c5) = W6 at hW7 hp6 hc7 ⊢; have hW8 : PgAt W6 _ _ _ _ _ _ _ := hp6) | (have hc7 := hc6 k; generalize w5.setCell ⟨g, k, none⟩ (.slice A5 t.length c5) = W6 at hp6 hc7 ⊢; have hW8 : PgAt W6 _ _ _ _ _ _ _ := hp6)
      have hd6 : W6.cell? ⟨b, 1, none⟩ = some (.slice (some ⟨g, 0, none⟩) s4.length c1) := by have := hp6.blk.cell 1; simpa using this
      have H6 := Lib.hid (show Pg W6 lo b sz (putS1 s t) ∧ Chg (fun j => lo ≤ j) w W6 ∧ _ from ⟨⟨_, _, _, H4.out.2.2.1 ▸ hp6⟩, Chg.trans (H4.out.2.1.grew H5.out.2.2) hc7 fun j hj e => by subst e; exact hgl, H4.out.2.2.2⟩)
      refine hK.out _ _ hd6 (fun _ => ?_)
      clear hK K
      (try simp only [Act.put, List.setIfInBounds_toArray, List.set_cons_zero, List.set_cons_succ, List.getElem_toArray, List.getElem_cons_zero, List.getElem_cons_succ])
      refine wpAnyH_done (by kernel_rfl) ?_ _
      clear hHeld hd1 hd5 hd6 hp6 hce hce5 hc6 hc7 hW8
      go_wp2_with fail
      go_ret2
      exact .inl ⟨HF.out, by rw [H6.out.2.2]; rfl, H6.out.1, H6.out.2.1⟩
  · have t1 : decide (r < t.length) = true := decide_eq_true (by omega)
    have HF := Lib.hid (fun e => hfit (HFr.out.1 e))
    clear hfit
    go_enter Tryz.func63, Tryz.ntmps63
    go_wp2_with fail
    refine HK.out.mono ?_
    rintro e w1 ⟨rfl, rfl⟩
    go_wp2_with fail
    refine HR.out.mono ?_
    rintro e w1 ⟨rfl, hg1⟩
    have HG1 := Lib.hid hg1
    clear hg1
    go_wp2_with fail
    go_ret2
    exact .inr ⟨HF.out, rfl, HG1.out⟩
end Go.Proofs.YtjkkoogfaibhiaaGreatDoor

/- slices.Concat of a slotted page's rows. -/
namespace Go.Proofs.YtjkkoogfaibhiaaGreatDoor
open Go.RowKit Go.Maps Go.Lib

theorem own_mk8 {W : World} {base g m cap : Nat} {e : TypeId} {cur : Array Value} {xs : List Value} (hb : base ≤ g) (hg : Blk W g e cur) (hm : m ≤ cap) (hc : cap ≤ maxLen) (hs : cur.size = cap) (hx : xs.length = m) (hj : ∀ j, j < m → cur[j]? = xs[j]?) : W.ownsRow base e 1 (.slice (some ⟨g, 0, none⟩) m cap) m xs := by
  refine ⟨by rw [hx, Nat.mul_one], .inr ⟨g, cap, cur, rfl, hb, hg, hm, hc, by rw [hs, Nat.mul_one], ?_⟩⟩
  rw [Nat.mul_one]
  apply List.ext_getElem?
  intro j
  rw [List.getElem?_take]
  split
  · rename_i h
    rw [← hj j h]
    simp
  · rename_i h
    rw [List.getElem?_eq_none (by omega)]
set_option maxHeartbeats 800000 in
theorem sgrow_nil (n : Nat) (w : World) (hn : n ≤ 100000) :
    Calls Tryz.prog 105 #[.slice none 0 0, .int .i64 n] w fun e w' => OwnOut w w' 5 1 0 [] (fun A c => .slice A 0 c) e := by
  obtain ⟨i0, hi0, hz0, hz1, hz2⟩ := info_parts u8Info_
  by_cases h0 : n = 0
  · subst h0
    clear hi0 hz0 hz1 hz2
    go_enter Tryz.func105, Tryz.ntmps105
    go_wp2
    go_ret
    exact ⟨none, 0, rfl, World.ownsRow_nil _ _ _ _, Chg.refl _ _⟩
  · have hrz : ∀ ty, (Builtin.append_ #[34, 3] ty #[.slice none 0 0, .int .i64 (n : Nat)]).run Tryz.prog w = .ok (.slice (some ⟨w.heap.size, 0, none⟩) (0 + n) (grownCap w (0 + n) 0 5))
        (w.drew.alloc (.cells ((([] : List Value).toArray ++ Builtin.zeroCells (Value.int .u8 0).cells n) ++ Builtin.zeroCells (Value.int .u8 0).cells (grownCap w (0 + n) 0 5 - (0 + n))) 5)) := fun ty =>
      Lib.run_append_grow_zeros w 34 3 ty 5 i0 (.int .u8 0) .u8 .i64 Tryz.underlying34 Tryz.underlying3 hi0 hz0 none 0 0 [] (run_firstCells_none w.drew i0.size 0 0 0) n (by omega) (by omega) (by omega) (by omega) (by rw [hz2]; omega) (growslice_fits (by omega) (by rw [hz2]; omega))
    have hcap := grownCap_ge w (0 + n) 0 5
    have hcap2 := grownCap_le_maxLen w (0 + n) 0 5 (by simp only [maxLen]; omega)
    obtain ⟨cp, hcp⟩ : ∃ q, grownCap w (0 + n) 0 5 = q := ⟨_, rfl⟩
    rw [hcp] at hcap hcap2
    simp only [hcp] at hrz
    obtain ⟨cur, hcur⟩ : ∃ q, (([] : List Value).toArray ++ Builtin.zeroCells (Value.int .u8 0).cells n) ++ Builtin.zeroCells (Value.int .u8 0).cells (cp - (0 + n)) = q := ⟨_, rfl⟩
    have hcs : cur.size = cp := by
      rw [← hcur]
      simp only [Array.size_append, size_zeroCells, List.size_toArray, List.length_nil]
      simp [Value.cells]
      omega
    simp only [hcur] at hrz
    have hn1 : (0 : Int) < (n : Int) := by omega
    simp only [maxLen] at hcap2
    rw [Nat.zero_add] at hcap
    have HR := Lib.hid (And.intro hrz hcs)
    clear hrz hcs hcur hcp hi0 hz0 hz1 hz2
    go_enter Tryz.func105, Tryz.ntmps105
    go_wp2_with (at_builtin; refine Lib.wpList_append_run _ rfl _ _ _ _ rfl _ _ rfl rfl _ _ (HR.out.1 _) ?_)
    go_ret
    refine ⟨_, _, rfl, ?_, (Chg.refl _ _).drew.alloc _⟩
    exact own_mk8 (Nat.le_refl _) (Blk.new w.drew 5 cur) (Nat.zero_le _) (by simp only [maxLen]; omega) HR.out.2 rfl (fun j hj => by omega)
theorem run_append_nought8 {P : Program} {w : World} {t e : TypeId} {i : TypeInfo} (ht : P.underlying t = some (.slice e)) (hi : P.info? e = some i) (ty : TypeId) (b x : Option Addr) (n c c' : Nat) (hn : n ≤ c) :
    (Builtin.append_ #[t, t] ty #[.slice b n c, .slice x 0 c']).run P w = .ok (.slice b n c) w := by
  have hf : (Builtin.firstCells i.size 0 (.slice x 0 c')).run P w = .ok #[] w := by
    cases x with
    | none => exact run_firstCells_none w i.size 0 0 c'
    | some a => exact run_firstCells_some w i.size 0 a 0 c' [] (by simp) (fun j v h => by simp at h)
  cases b with
  | none => simp [Builtin.append_, run_underlying ht, Go.sizeOf, typeInfo, hi, Builtin.lenOf, hf, hn]
  | some a => simp [Builtin.append_, run_underlying ht, Go.sizeOf, typeInfo, hi, Builtin.lenOf, hf, hn, storeCells]
theorem flat_succ {s : Sls} {k : Nat} {b : List Int} (h : s[k]? = some b) : (s.take (k + 1)).flatten = (s.take k).flatten ++ b := by
  rw [List.take_add_one, h, List.flatten_append]
  simp
theorem flat_le (s : Sls) (k : Nat) : (s.take k).flatten.length ≤ s.flatten.length := by
  conv => rhs; rw [← List.take_append_drop k s, List.flatten_append, List.length_append]
  omega
theorem bv_app (a b : List Int) : bv (a ++ b) = bv a ++ bv b := by simp [bv]
set_option maxRecDepth 100000 in
set_option maxHeartbeats 1600000 in
theorem sconcat_any (lo b sz N : Nat) (s : Sls) (A : Option Addr) (c : Nat) (vs : List Value) (w : World) (h : PgAt w lo b sz s A c vs) (hl : s.length ≤ 1000) (hN : s.flatten.length = N) (hN2 : N ≤ 4096) :
    Calls Tryz.prog 76 #[.slice A s.length c] w fun e w' => OwnOut w w' 5 1 N (bv s.flatten) (fun A c => .slice A N c) e := by
  obtain ⟨i0, hi0, hz0, hz1, hz2⟩ := info_parts u8Info_
  have H := Lib.hid (And.intro h (And.intro hN (And.intro hi0 (And.intro hz0 (And.intro hz1 hz2)))))
  have HS := Lib.hid (show ∀ (k : Nat) b', s[k]? = some b' → (s.take (k + 1)).flatten.length = (s.take k).flatten.length + b'.length ∧ (s.take k).flatten.length + b'.length ≤ N from fun k b' hk => by
    have h1 := congrArg List.length (flat_succ hk)
    rw [List.length_append] at h1
    have h2 := flat_le s (k + 1)
    omega)
  clear h hN hi0 hz0 hz1 hz2
  go_enter Tryz.func76, Tryz.ntmps76
  go_wp2_with fail
  go_loopg [3, 11] s.length (fun q sz i wr => ∃ k, q = s.length - k ∧ k ≤ s.length ∧ i = .int .i64 k ∧ sz = .int .i64 ((s.take k).flatten.length : Nat) ∧ w = wr)
  case atStart => exact ⟨0, rfl, Nat.zero_le _, rfl, rfl, rfl⟩
  case round =>
    obtain ⟨k, rfl, hk, rfl, rfl, rfl⟩ := hrel
    by_cases hlt : k < s.length
    · obtain ⟨b', hb'⟩ : ∃ b', s[k]? = some b' := ⟨_, List.getElem?_eq_getElem hlt⟩
      obtain ⟨g, Ai, ci, rfl, hg, -, hce, -⟩ := H.out.1.cell hb'
      obtain ⟨e1, e2⟩ := HS.out k b' hb'
      obtain ⟨s0, hs0⟩ : ∃ q, (s.take k).flatten.length = q := ⟨_, rfl⟩
      rw [hs0] at e1 e2 ⊢
      have E1 := Lib.hid e1
      clear e1 hb' hs0
      go_wp2_with fail
      go_roundg (s.length - (k + 1))
      case measure => omega
      case rel => exact ⟨k + 1, rfl, by omega, by simp, by rw [E1.out]; simp, rfl⟩
    · obtain rfl : k = s.length := by omega
      have hNN : (s.take s.length).flatten.length = N := by rw [List.take_length]; exact H.out.2.1
      rw [hNN]
      have HG := Lib.hid (sgrow_nil N w (by omega))
      clear hNN hlt hk
      go_wp2_with fail
      refine HG.out.mono ?_
      rintro e w1 ⟨A1, c1, rfl, ho1, hg1⟩
      have H1 := Lib.hid (And.intro ho1 hg1)
      clear ho1 hg1
      go_wp2_with fail
      go_loopg [6, 27] s.length (fun q v i W2 => ∃ j, q = s.length - j ∧ j ≤ s.length ∧ i = .int .i64 j ∧ W2.ownsRow w.heap.size 5 1 v (s.take j).flatten.length (bv (s.take j).flatten) ∧ Grew w W2)
      case atStart => exact ⟨0, rfl, Nat.zero_le _, rfl, H1.out.1, H1.out.2⟩
      case round =>
        obtain ⟨j, rfl, hj, rfl, ho, hgr⟩ := hrel
        by_cases hlt : j < s.length
        · obtain ⟨b', hb'⟩ : ∃ b', s[j]? = some b' := ⟨_, List.getElem?_eq_getElem hlt⟩
          obtain ⟨g, Ai, ci, rfl, hg, -, hce2, hob⟩ := (H.out.1.grew hgr).cell hb'
          obtain ⟨e1, e2⟩ := HS.out j b' hb'
          obtain ⟨Av, cv, rfl, hncv⟩ := own_shape ho
          obtain ⟨s0, hs0⟩ : ∃ q, (s.take j).flatten.length = q := ⟨_, rfl⟩
          rw [hs0] at e1 e2 ho hncv ⊢
          have H2 := Lib.hid (And.intro ho (And.intro hgr (And.intro e1 (And.intro hob (flat_succ hb')))))
          clear ho hgr e1 hob hb' hs0
          by_cases hn0 : b'.length = 0
          · obtain rfl : b' = [] := List.eq_nil_of_length_eq_zero hn0
            have HRA := Lib.hid (fun ty => run_append_nought8 (P := Tryz.prog) (w := wr) Tryz.underlying34 H.out.2.2.1 ty Av Ai s0 cv ci hncv)
            go_wp2_with (at_builtin; refine Lib.wpList_append_run _ rfl _ _ _ _ rfl _ _ rfl rfl _ _ (HRA.out _) ?_)
            go_roundg (s.length - (j + 1))
            case measure => omega
            case rel =>
              obtain ⟨q1, q2, q3, q4, q5⟩ := H2.out
              refine ⟨j + 1, rfl, by omega, by simp, ?_, q2⟩
              rw [q3, q5, List.append_nil]
              exact q1
          · obtain ⟨gb, rfl, -⟩ := own_block H2.out.2.2.2.1 (by omega)
            have HX := Lib.hid (Sl.of_own H2.out.2.2.2.1)
            go_wp2_with (at_builtin; refine wpList_append_own _ rfl _ _ _ rfl w.heap.size 5 i0 _ 1 1 Tryz.underlying34 H.out.2.2.1 H.out.2.2.2.1 H.out.2.2.2.2.1 H.out.2.2.2.2.2 rfl (by omega) (.slice Av s0 cv) s0 (bv (s.take j).flatten) rfl H2.out.1 ⟨gb, 0, none⟩ b'.length ci (bv b') rfl (by rw [Nat.mul_one]; exact bv_len _) (fun j u hu => by obtain ⟨g9, o9, e9, -, h9⟩ := HX.out.2 (by omega); cases e9; rw [Addr.add_lit]; exact h9 j u hu) (bv_one _) (by simp only [maxLen]; omega) (by omega) H2.out.2.1.size ?_; intro v1 w1 hown1 hgrow hnil; have HO := Lib.hid hown1; have HG := Lib.hid hgrow; clear hown1 hgrow hnil)
            go_roundg (s.length - (j + 1))
            case measure => omega
            case rel =>
              obtain ⟨q1, q2, q3, q4, q5⟩ := H2.out
              refine ⟨j + 1, rfl, by omega, by simp, ?_, grew_row q2 q1 HG.out⟩
              rw [q3, q5, bv_app]
              exact HO.out
        · obtain rfl : j = s.length := by omega
          rw [List.take_length, H.out.2.1] at ho
          obtain ⟨A', c', rfl, -⟩ := own_shape ho
          have HO := Lib.hid (And.intro ho hgr)
          clear ho hgr hlt hj
          go_wp2_with fail
          go_ret
          exact ⟨A', c', rfl, HO.out.1, HO.out.2⟩
end Go.Proofs.YtjkkoogfaibhiaaGreatDoor

/- Slotted pages in memory: Bytes. -/
namespace Go.Proofs.YtjkkoogfaibhiaaGreatDoor
open Go.RowKit Go.Maps

theorem news_list (w : World) (us : List Value) (t : TypeId) : ∀ j u, us[j]? = some u → (w.alloc (.cells us.toArray t)).cell? ((⟨w.heap.size, 0, none⟩ : Addr).add j) = some u := by
  intro j u hu
  have := (Blk.new w t us.toArray).cell j
  rw [Addr.add_lit, Nat.zero_add]
  rw [this]
  simpa using hu
theorem app_two {w : World} {ops : Array Oper} {rest : List Oper} {o : Oper} {a : Act} {Q : Exit → Act → World → Prop} (hgd : o.guard = none) (s x : Operand)
    (ho : o.op = .call { callee := .builtin .append, args := #[s, x], argTypes := #[34, 34] }) (base : Nat) (v : Value) (n : Nat) (xs : List Value) (hs : a.eval s = v) (hown : w.ownsRow base 5 1 v n xs)
    (e1 e2 : Int) (hx : a.eval x = .slice (some ⟨w.heap.size, 0, none⟩) 2 2) (hn : n ≤ 1000000) (hb : base ≤ w.heap.size)
    (h : ∀ v' w', w'.ownsRow base 5 1 v' (n + 2) (xs ++ bv [e1, e2]) → Ap w w' v v' → wpList Tryz.prog ops Q rest (a.put o.dst v') w') :
    wpList Tryz.prog ops Q (o :: rest) a (w.alloc (.cells #[.int .u8 e1, .int .u8 e2] 5)) := by
  obtain ⟨i0, hi0, hz0, hz1, hz2⟩ := info_parts u8Info_
  refine wpList_append_own_at _ hgd s x 34 ho base 5 i0 _ 1 1 Tryz.underlying34 hi0 hz0 hz1 hz2 rfl (by omega) v n xs hs (own_grew hown ((Chg.refl _ _).alloc _)) ⟨w.heap.size, 0, none⟩ 2 2 (bv [e1, e2]) hx rfl (news_list w [.int .u8 e1, .int .u8 e2] _) (bv_one _) (by simp only [maxLen]; omega) (by omega) (by simp; omega) ?_
  intro v1 w1 h1 h2 _ h4
  exact h v1 w1 h1 ((Ap.refl _ _).push ((Chg.refl _ _).alloc _) h2 h4)
/-- The bytes ahead of the records. -/
def hdS (s : Sls) (k : Nat) : List Int := ((s.length : Nat) : Int) :: ((s.take k).flatMap fun b => encL b.length)
theorem hdS_succ {s : Sls} {k : Nat} {b : List Int} (h : s[k]? = some b) : hdS s (k + 1) = hdS s k ++ encL b.length := by
  unfold hdS
  rw [List.take_add_one, h]
  simp
theorem hdS_len {s : Sls} {k : Nat} (h : k ≤ s.length) : (hdS s k).length = 1 + 2 * k := by
  unfold hdS
  rw [List.length_cons, encL_all, List.length_take]
  omega
set_option maxRecDepth 100000 in
set_option maxHeartbeats 1600000 in
theorem sbytes_any (lo b sz : Nat) (s : Sls) (w : World) (h : Pg w lo b sz s) (hf : SFit s sz) (hz : sz ≤ 4096) (hne : 0 < s.flatten.length) :
    Calls Tryz.prog 37 #[.pointer (some ⟨b, 0, none⟩)] w fun e w' => OwnOut w w' 5 1 sz (bv (pageS s sz)) (fun A c => .slice A sz c) e := by
  obtain ⟨i0, hi0, hz0, hz1, hz2⟩ := info_parts u8Info_
  have hlen := hf.len
  have hfew := hf.few
  have hbl := hf.bl
  obtain ⟨A, c, vs, hp⟩ := h
  obtain ⟨c0, f0, s0⟩ := hp.blk.facts
  obtain ⟨N, hN⟩ : ∃ N, s.flatten.length = N := ⟨_, rfl⟩
  have hlN : lenS s = 1 + 2 * s.length + N := by unfold lenS; rw [flat_sum, hN]; omega
  rw [hN] at hne
  have H := Lib.hid (And.intro hp (And.intro hN (And.intro hlN (And.intro hi0 (And.intro hz0 (And.intro hz1 (And.intro hz2 hbl)))))))
  have hN4 : 1 + 2 * s.length + N ≤ sz := by omega
  have hl8 : ((s.length : Int)) % 256 = (s.length : Int) := by omega
  clear hp hf hN hlN hlen hi0 hz0 hz1 hz2 hbl
  go_enter Tryz.func37, Tryz.ntmps37
  go_wp2_with fail
  have hrow0 : (w.alloc (.cells #[.int .u8 (s.length : Int)] 5)).ownsRow w.heap.size 5 1 (.slice (some ⟨w.heap.size, 0, none⟩) 1 1) 1 (bv (hdS s 0)) := by
    have := World.ownsRow_lit w #[.int .u8 (s.length : Int)] 1 (Nat.le_refl _) (by simp [maxLen]) (by simp) (e := 5) (size := 1) (base := w.heap.size)
    simpa [hdS, bv] using this
  have HR := Lib.hid hrow0
  clear hrow0 c0 f0 s0
  go_loopg [3, 18] s.length (fun q v i wr => ∃ k, q = s.length - k ∧ k ≤ s.length ∧ i = .int .i64 k ∧ wr.ownsRow w.heap.size 5 1 v (1 + 2 * k) (bv (hdS s k)) ∧ Grew w wr)
  case atStart => exact ⟨0, rfl, Nat.zero_le _, rfl, HR.out, (Chg.refl _ _).alloc _⟩
  case round =>
    obtain ⟨k, rfl, hk, rfl, ho, hgr⟩ := hrel
    by_cases hlt : k < s.length
    · obtain ⟨b', hb'⟩ : ∃ b', s[k]? = some b' := ⟨_, List.getElem?_eq_getElem hlt⟩
      obtain ⟨g, Ai, ci, rfl, hg, -, hce, -⟩ := (H.out.1.grew hgr).cell hb'
      have hbn : b'.length ≤ 4096 := by have := H.out.2.2.2.2.2.2.2 b' (List.mem_of_getElem? hb'); omega
      have hsz := hgr.size
      have hr2 := fun (k0 : Nat) => k0
      have HO := Lib.hid (And.intro ho (And.intro hgr (hdS_succ hb')))
      obtain ⟨n, hn⟩ : ∃ n, b'.length = n := ⟨_, rfl⟩
      have Hn := Lib.hid hn
      rw [hn] at hce hbn
      clear ho hgr hb' hn
      go_wp2_with (at_builtin; refine app_two rfl _ _ rfl w.heap.size _ (1 + 2 * k) (bv (hdS s k)) rfl HO.out.1 _ _ rfl (by omega) hsz ?_; intro v1 w3 hown1 hap1; have HO1 := Lib.hid (And.intro hown1 hap1); clear hown1 hap1)
      go_roundg (s.length - (k + 1))
      case measure => omega
      case rel =>
        refine ⟨k + 1, rfl, by omega, by simp, ?_, HO1.out.2.grow HO.out.2.1 fun j hj => (HO.out.1.lt j hj).1⟩
        have h1 := HO1.out.1
        rw [HO.out.2.2, bv_app, Hn.out]
        rw [show 1 + 2 * (k + 1) = 1 + 2 * k + 2 by omega]
        have e : bv (encL n) = bv [((n : Int) % 256), ((n : Int) / 256)] := by
          have q2 : ((n / 256 % 256 : Nat) : Int) = (n : Int) / 256 := by omega
          unfold encL
          rw [q2]
          simp [bv]
        rw [e]
        exact h1
    · obtain rfl : k = s.length := by omega
      obtain ⟨A1, c1, rfl, hc1⟩ := own_shape ho
      have hp2 := H.out.1.grew hgr
      obtain ⟨c2, f2, s2⟩ := hp2.blk.facts
      have HC := Lib.hid (sconcat_any lo b sz N s A c vs wr hp2 (by omega) H.out.2.1 (by omega))
      have HO := Lib.hid (And.intro ho (And.intro hgr hp2))
      have hgz := hgr.size
      clear ho hgr hp2 hlt hk
      go_wp2_with fail
      refine HC.out.mono ?_
      rintro e w4 ⟨A4, c4, rfl, ho4, hg4⟩
      obtain ⟨g4, rfl, hgl4⟩ := own_block ho4 (by omega)
      have H4 := Lib.hid (And.intro ho4 hg4)
      have hgz4 := hg4.size
      have hgz5 : w.heap.size ≤ w4.heap.size := by omega
      have HX := Lib.hid (Sl.of_own ho4)
      have HO4 := Lib.hid (own_grew HO.out.1 hg4)
      obtain ⟨d0, f0, s0⟩ := (HO.out.2.2.grew hg4).blk.facts
      have HB4 := Lib.hid ((HO.out.2.2.grew hg4).blk)
      clear ho4 hg4 HC c2 f2 s2
      have hsub : (sz : Int) - (1 + 2 * (s.length : Int) + (N : Int)) = ((sz - (1 + 2 * s.length + N) : Nat) : Int) := by omega
      go_wp2_with (first
        | (at_builtin; (refine wpList_append_own _ rfl _ _ _ rfl w.heap.size 5 i0 _ 1 1 Tryz.underlying34 H.out.2.2.2.1 H.out.2.2.2.2.1 H.out.2.2.2.2.2.1 H.out.2.2.2.2.2.2.1 rfl (by omega) _ (1 + 2 * s.length) _ rfl HO4.out ⟨g4, 0, none⟩ N c4 (bv s.flatten) rfl (by rw [bv_len, H.out.2.1, Nat.mul_one]) (fun j u hu => by obtain ⟨g9, o9, e9, -, h9⟩ := HX.out.2 (by omega); cases e9; rw [Addr.add_lit]; exact h9 j u hu) (bv_one _) (by simp only [maxLen]; omega) (by omega) hgz5 ?_); intro v5 w5 hown5 hgrow5 hnil5; obtain ⟨A5, c5, rfl, hc5⟩ := own_shape hown5; have HO5 := Lib.hid (And.intro hown5 hgrow5); have hg45 := hgrow5; have hgz6 := Nat.le_trans hgz5 hg45.size; have hb5 := HB4.out.grown hgrow5 (fun e => own_blk_ne HO4.out HB4.out (by decide) e.symm); obtain ⟨d5, f5, s5⟩ := hb5.facts; clear hown5 hgrow5 hnil5 hb5 d0 f0 s0 hg45)
        | (at_builtin; (refine wpList_append_zeros rfl _ _ w.heap.size _ _ 5 rfl i0 (.int .u8 0) _ _ Tryz.underlying34 Tryz.underlying3 H.out.2.2.2.1 H.out.2.2.2.2.1 H.out.2.2.2.2.2.1 (by rw [H.out.2.2.2.2.2.2.1]; omega) rfl rfl _ _ _ HO5.out.1 (by omega) (sz - (1 + 2 * s.length + N)) (by omega) hgz6 rfl (congrArg (Value.int .i64) (by omega)) ?_); intro v2 w2 hown2 hgrow2 hat2; rw [show 1 + 2 * s.length + N + (sz - (1 + 2 * s.length + N)) = sz from by omega] at hown2; obtain ⟨A2, c2, rfl, hc2⟩ := own_shape hown2; have HO2 := Lib.hid hown2; have HG2 := Lib.hid hgrow2; clear hown2 hgrow2 hat2))
      go_ret
      have hl2 : bv (pageS s sz) = bv (hdS s s.length) ++ bv s.flatten ++ List.replicate (sz - (1 + 2 * s.length + N)) (.int .u8 0) := by
        unfold pageS encS hdS
        rw [H.out.2.2.1, List.take_length]
        simp [bv]
      refine OwnOut.mk A2 c2 rfl ?_ ?_
      · rw [hl2]
        exact HO2.out
      · have h1 : Grew w w4 := Grew.trans HO.out.2.1 H4.out.2
        have h2 : Grew w w5 := grew_row h1 HO4.out HO5.out.2
        exact grew_row h2 HO5.out.1 HG2.out
end Go.Proofs.YtjkkoogfaibhiaaGreatDoor

/- A drawn region, as XOrd, but S is to be kept where it held: an operation that turns nothing may stand behind a store, too. No program stands in this text. -/
namespace Go.Proofs.YtjkkoogfaibhiaaGreatDoor
open Go.RowKit

section
variable {P : Program} {ops : Array Oper} {Q : Exit → Act → World → Prop} {md : Region.Mode} {S : World → Prop} {X : List Nat}

/-- Every order; S is kept by each operation but those of X. -/
def wpAnyY (P : Program) (md : Region.Mode) (ops : Array Oper) (Q : Exit → Act → World → Prop) (S : World → Prop) (X : List Nat) : Nat → Array Bool → Act → World → Prop
  | 0, listed, a, w => Region.ready md ops listed = [] ∧ Q .normal a w
  | fuel + 1, listed, a, w =>
    (Region.ready md ops listed = [] → Q .normal a w) ∧
    ∀ i ∈ Region.ready md ops listed, wpOp P ops Q i (fun a' w' => (X.contains i = false → S w → S w') ∧ wpAnyY P md ops Q S X fuel (listed.setIfInBounds i true) a' w') a w

theorem wpAnyY_any : ∀ (fuel : Nat) (listed : Array Bool) (a : Act) (w : World), wpAnyY P md ops Q S X fuel listed a w → wpAny P md ops Q fuel listed a w
  | 0, _, _, _, h => h
  | fuel + 1, _, _, _, h => ⟨h.1, fun i hi => wpOp_mono (fun a' w' h' => wpAnyY_any fuel _ a' w' h'.2) (h.2 i hi)⟩

theorem wpAnyY_first {i : Nat} {oi : Oper} {v : Value} (hi : ops[i]? = some oi) (hsel : ∀ (j : Nat) (o : Oper) cs b, ops[j]? = some o → o.op ≠ .select cs b)
    (hQ : ∀ c a w, Q (.panic c) (a.put oi.dst v) w → Q (.panic c) a w) (hX : waitsB md ops X i = true) (fuel : Nat) : ∀ (listed : Array Bool) (a : Act) (w : World),
      (∀ j oj, ops[j]? = some oj → j ≠ i → listed.getD j true = false → (∀ e ∈ oj.after, Region.binds md e = true → e.on ≠ i) → oi.apart ops oj = true) →
      i ∈ Region.ready md ops listed → YieldsIf P ops S oi v a → S w →
      wpAnyY P md ops Q S X fuel (listed.setIfInBounds i true) (a.put oi.dst v) w → wpAnyY P md ops Q S X (fuel + 1) listed a w := by
  induction fuel with
  | zero =>
    intro listed a w _ hr hy hS H
    refine ⟨fun h => absurd hr (by rw [h]; simp), fun j hj => ?_⟩
    rcases Nat.decEq j i with hji | hji
    · have := ready_mono hj hji
      rw [H.1] at this
      cases this
    · subst hji
      exact hy.wpOp hi hS ⟨fun _ _ => hS, H⟩
  | succ fuel ih =>
    intro listed a w hfree hr hy hS H
    refine ⟨fun h => absurd hr (by rw [h]; simp), fun j hj => ?_⟩
    rcases Nat.decEq j i with hji | hji
    · obtain ⟨hun, oj, hoj, hall⟩ := mem_ready.1 hj
      have hiun := (mem_ready.1 hr).1
      have hnot : ∀ e ∈ oj.after, Region.binds md e = true → e.on ≠ i := by
        intro e he hb heq
        have hl := hall e he hb
        rw [heq] at hl
        by_cases hsz : i < listed.size
        · simp [hsz] at hiun hl; rw [hiun] at hl; cases hl
        · simp [Array.getElem?_eq_none (Nat.le_of_not_lt hsz)] at hl
      have step := wpOp_putIf hoj (hfree j oj hoj hji hun hnot) (fun cs b => hsel i oi cs b hi) (fun cs b => hsel j oj cs b hoj) hQ hy (H.2 j (ready_mono hj hji))
      have hnx := waits_no (X := X) hX hoj hnot
      refine wpOp_mono (fun a' w' h3 => ?_) step
      have hS' := h3.2.1 hnx hS
      refine ⟨fun _ _ => hS', ih (listed.setIfInBounds j true) a' w' (fun k ok hk hki hkun hno => hfree k ok hk hki ?_ hno) (ready_mono hr (Ne.symm hji)) h3.1 hS' (by rw [Array.setIfInBounds_comm _ _ hji]; exact h3.2.2)⟩
      rcases Nat.decEq j k with hjk | hjk
      · rwa [getD_set_ne true hjk] at hkun
      · exact hjk ▸ hun
    · subst hji
      exact hy.wpOp hi hS ⟨fun _ _ => hS, H⟩

theorem wpAnyY_take {i : Nat} {oi : Oper} {v : Value} {fuel : Nat} {listed : Array Bool} {a : Act} {w : World} (hi : ops[i]? = some oi)
    (hs : Region.noSelect ops = true) (hf : Region.free md ops listed i = true) (hr : (Region.ready md ops listed).contains i = true) (hX : waitsB md ops X i = true)
    (hQ : ∀ c a w, Q (.panic c) (a.put oi.dst v) w → Q (.panic c) a w) (hy : YieldsIf P ops S oi v a) (hS : S w)
    (h : wpAnyY P md ops Q S X fuel (listed.setIfInBounds i true) (a.put oi.dst v) w) : wpAnyY P md ops Q S X (fuel + 1) listed a w :=
  wpAnyY_first hi (Region.noSelect_spec hs) hQ hX fuel listed a w (Region.free_spec hi hf) (by simpa using hr) hy hS h

def AllReadyY (P : Program) (md : Region.Mode) (ops : Array Oper) (Q : Exit → Act → World → Prop) (S : World → Prop) (X : List Nat) (fuel : Nat) (listed : Array Bool) (a : Act) (w : World) (rs : List Nat) : Prop :=
  ∀ i ∈ rs, wpOp P ops Q i (fun a' w' => (X.contains i = false → S w → S w') ∧ wpAnyY P md ops Q S X fuel (listed.setIfInBounds i true) a' w') a w
theorem AllReadyY.nil {fuel : Nat} {listed : Array Bool} {a : Act} {w : World} : AllReadyY P md ops Q S X fuel listed a w [] := fun _ h => absurd h (by simp)
theorem AllReadyY.cons {fuel : Nat} {listed : Array Bool} {a : Act} {w : World} {i : Nat} {o : Oper} {rs : List Nat} (ho : ops[i]? = some o)
    (h : ∀ K' : Act → World → Prop, Shut (∀ a w', (X.contains i = false → S w → S w') → wpAnyY P md ops Q S X fuel (listed.setIfInBounds i true) a w' → K' a w') → if Region.wanted o (yielded ops a.tmps) = true then Oper.wp P o a w K' Q else K' (a.put o.dst undef) w)
    (hs : AllReadyY P md ops Q S X fuel listed a w rs) : AllReadyY P md ops Q S X fuel listed a w (i :: rs) := fun j hj => by
  rcases List.mem_cons.1 hj with rfl | hj
  · exact wpOp_step ho (fun K' hK => h K' (fun a w hS hW => hK a w ⟨hS, hW⟩))
  · exact hs j hj
theorem wpAnyY_ready {rs : List Nat} {fuel : Nat} {listed : Array Bool} {a : Act} {w : World} (hr : Region.ready md ops listed = rs) (hne : rs ≠ [])
    (h : AllReadyY P md ops Q S X fuel listed a w rs) : wpAnyY P md ops Q S X (fuel + 1) listed a w := ⟨fun h0 => absurd (hr ▸ h0) hne, hr ▸ h⟩
theorem wpAnyY_done {listed : Array Bool} {a : Act} {w : World} (hr : Region.ready md ops listed = []) (h : Q .normal a w) : ∀ fuel, wpAnyY P md ops Q S X fuel listed a w
  | 0 => ⟨hr, h⟩
  | _ + 1 => ⟨fun _ => h, by rw [hr]; simp⟩

/-- The beginning. -/
theorem wp_region_y (X : List Nat) {id : Nat} {a : Act} {w : World} (hm : P.follows .mixedOrders = true) (hS : S w.drew)
    (h : S w.drew → wpAnyY P .any ops Q S X ops.size (Array.replicate ops.size false) a w.drew) : (Code.region id ops true).wp P Q a w :=
  wp_region_any hm (wpAnyY_any _ _ _ _ (h hS))
theorem wpAnyY_firstP {i : Nat} {oi : Oper} {v : Value} (hi : ops[i]? = some oi) (hsel : ∀ (j : Nat) (o : Oper) cs b, ops[j]? = some o → o.op ≠ .select cs b)
    (hQ : ∀ c a w, Q (.panic c) (a.put oi.dst v) w → Q (.panic c) a w) (fuel : Nat) : ∀ (listed : Array Bool) (a : Act) (w : World),
      (∀ j oj, ops[j]? = some oj → j ≠ i → listed.getD j true = false → (∀ e ∈ oj.after, Region.binds md e = true → e.on ≠ i) → oi.apart ops oj = true) →
      i ∈ Region.ready md ops listed → YieldsIf P ops (fun _ => True) oi v a →
      wpAnyY P md ops Q S X fuel (listed.setIfInBounds i true) (a.put oi.dst v) w → wpAnyY P md ops Q S X (fuel + 1) listed a w := by
  induction fuel with
  | zero =>
    intro listed a w _ hr hy H
    refine ⟨fun h => absurd hr (by rw [h]; simp), fun j hj => ?_⟩
    rcases Nat.decEq j i with hji | hji
    · have := ready_mono hj hji
      rw [H.1] at this
      cases this
    · subst hji
      exact hy.wpOp hi trivial ⟨fun _ h => h, H⟩
  | succ fuel ih =>
    intro listed a w hfree hr hy H
    refine ⟨fun h => absurd hr (by rw [h]; simp), fun j hj => ?_⟩
    rcases Nat.decEq j i with hji | hji
    · obtain ⟨hun, oj, hoj, hall⟩ := mem_ready.1 hj
      have hiun := (mem_ready.1 hr).1
      have hnot : ∀ e ∈ oj.after, Region.binds md e = true → e.on ≠ i := by
        intro e he hb heq
        have hl := hall e he hb
        rw [heq] at hl
        by_cases hsz : i < listed.size
        · simp [hsz] at hiun hl; rw [hiun] at hl; cases hl
        · simp [Array.getElem?_eq_none (Nat.le_of_not_lt hsz)] at hl
      have step := wpOp_putIf hoj (hfree j oj hoj hji hun hnot) (fun cs b => hsel i oi cs b hi) (fun cs b => hsel j oj cs b hoj) hQ hy (H.2 j (ready_mono hj hji))
      refine wpOp_mono (fun a' w' h3 => ?_) step
      refine ⟨h3.2.1, ih (listed.setIfInBounds j true) a' w' (fun k ok hk hki hkun hno => hfree k ok hk hki ?_ hno) (ready_mono hr (Ne.symm hji)) h3.1 (by rw [Array.setIfInBounds_comm _ _ hji]; exact h3.2.2)⟩
      rcases Nat.decEq j k with hjk | hjk
      · rwa [getD_set_ne true hjk] at hkun
      · exact hjk ▸ hun
    · subst hji
      exact hy.wpOp hi trivial ⟨fun _ h => h, H⟩
theorem wpAnyY_takeP {i : Nat} {oi : Oper} {v : Value} {fuel : Nat} {listed : Array Bool} {a : Act} {w : World} (hi : ops[i]? = some oi)
    (hs : Region.noSelect ops = true) (hf : Region.free md ops listed i = true) (hr : (Region.ready md ops listed).contains i = true)
    (hQ : ∀ c a w, Q (.panic c) (a.put oi.dst v) w → Q (.panic c) a w) (hy : YieldsIf P ops (fun _ => True) oi v a)
    (h : wpAnyY P md ops Q S X fuel (listed.setIfInBounds i true) (a.put oi.dst v) w) : wpAnyY P md ops Q S X (fuel + 1) listed a w :=
  wpAnyY_firstP hi (Region.noSelect_spec hs) hQ fuel listed a w (Region.free_spec hi hf) (by simpa using hr) hy h
end
end Go.Proofs.YtjkkoogfaibhiaaGreatDoor

/- Slotted pages in memory: Load of a page's bytes. -/
namespace Go.Proofs.YtjkkoogfaibhiaaGreatDoor
open Go.RowKit Go.Maps

theorem offS_len (s : Sls) : offS s s.length = lenS s := by
  unfold offS lenS
  rw [List.take_length, flat_sum]
  omega
theorem pageS_byt {s : Sls} {sz : Nat} (h : SFit s sz) : ∀ q ∈ pageS s sz, 0 ≤ q ∧ q ≤ 255 := by
  intro q hq
  have hf := h.few
  unfold pageS encS at hq
  rcases List.mem_append.1 hq with e | e
  · rcases List.mem_cons.1 e with rfl | e
    · omega
    · rcases List.mem_append.1 e with e | e
      · obtain ⟨b, -, e⟩ := List.mem_flatMap.1 e
        unfold encL at e
        simp only [List.mem_cons, List.not_mem_nil, or_false] at e
        omega
      · obtain ⟨b, hb, e⟩ := List.mem_flatten.1 e
        exact h.byt b hb q e
  · rw [List.eq_of_mem_replicate e]
    omega
theorem flat_mem : ∀ {s : Sls} {b : List Int}, b ∈ s → b.length ≤ s.flatten.length
  | a :: s, b, h => by
    rw [List.flatten_cons, List.length_append]
    rcases List.mem_cons.1 h with rfl | e
    · omega
    · have := flat_mem e; omega
theorem offS_lt {s : Sls} {k : Nat} (h : k < s.length) (hl : ∀ b, s.getLast? = some b → b ≠ []) : offS s k < lenS s := by
  unfold offS lenS
  rw [flat_sum]
  obtain ⟨b, hb⟩ : ∃ b, s.getLast? = some b := ⟨_, List.getLast?_eq_some_getLast (by rintro rfl; simp at h)⟩
  have h1 := hl b hb
  have h2 : b ∈ s.drop k := by
    rw [List.getLast?_eq_getElem?] at hb
    refine List.mem_of_getElem? (i := s.length - 1 - k) ?_
    rw [List.getElem?_drop, show k + (s.length - 1 - k) = s.length - 1 by omega]
    exact hb
  have h3 := flat_mem h2
  have h4 : 0 < b.length := List.length_pos_iff.2 h1
  have h5 : s.flatten.length = (s.take k).flatten.length + (s.drop k).flatten.length := by
    conv => lhs; rw [← List.take_append_drop k s, List.flatten_append, List.length_append]
  omega
/-- What lies there between two records of Load. -/
structure LdG (w W : World) (sz k : Nat) (s : Sls) : Prop where
  pg : Pg W w.heap.size w.heap.size sz (s.take k)
  gr : Grew w W
set_option maxRecDepth 100000 in
set_option maxHeartbeats 1600000 in
theorem sload_any (sz g cb : Nat) (s : Sls) (w : World) (ho : w.ownsRow 0 5 1 (.slice (some ⟨g, 0, none⟩) sz cb) sz (bv (pageS s sz))) (hf : SFit s sz) (h16 : 16 ≤ sz) (hz : sz ≤ 4096) (hne : s ≠ []) :
    Calls Tryz.prog 93 #[.slice (some ⟨g, 0, none⟩) sz cb] w fun e w' => e = .returned (.tuple #[.pointer (some ⟨w.heap.size, 0, none⟩), .bool true]) ∧ Pg w' w.heap.size w.heap.size sz s ∧ Grew w w' := by
  have hlen := hf.len
  have hfew := hf.few
  have hbl := hf.bl
  have hs1 : 0 < s.length := List.length_pos_iff.2 hne
  have hgl := (ho.lt g rfl).2
  have hcb : sz ≤ cb := by obtain ⟨_, _, e, h9⟩ := own_shape ho; cases e; exact h9
  have hce : ∀ j u, (pageS s sz)[j]? = some u → w.cell? ⟨g, j, none⟩ = some (.int .u8 u) := fun j u hu => by
    have := ho.cells (g := g) rfl j (.int .u8 u) (by simp [bv, hu])
    rwa [Addr.add_lit, Nat.zero_add] at this
  have d0 := hce 0 _ (pageS_zero s sz)
  have hlen2 : lenS s = 1 + 2 * s.length + s.flatten.length := by unfold lenS; rw [flat_sum]; omega
  have HN := Lib.hid (snew_any sz w h16 hz)
  have H := Lib.hid (And.intro ho (And.intro hf (And.intro hce (And.intro hbl hne))))
  have p0 : (0 : Int) < (sz : Int) := by omega
  have t1 : decide ((63 : Int) < (s.length : Int)) = false := decide_eq_false (by omega)
  have t2 : decide ((sz : Int) < 1 + 2 * (s.length : Int)) = false := decide_eq_false (by omega)
  clear ho hf hce hbl hne
  go_enter Tryz.func93, Tryz.ntmps93
  go_wp2_with fail
  refine HN.out.mono ?_
  rintro e w1 ⟨rfl, hp1, hg1⟩
  have d01 := (hg1.cell (p := ⟨g, 0, none⟩) hgl id).trans d0
  have hgl1 := Nat.lt_of_lt_of_le hgl hg1.size
  have H1 := Lib.hid (And.intro hp1 hg1)
  clear hp1 hg1 d0
  go_wp2_with fail
  go_loopg [6, 32] s.length (fun q a i wr => ∃ k, q = s.length - k ∧ k ≤ s.length ∧ a = .int .i64 (offS s k : Nat) ∧ i = .int .i64 k ∧ LdG w wr sz k s)
  case atStart => exact ⟨0, rfl, Nat.zero_le _, by rw [offS_zero]; simp, rfl, ⟨⟨_, _, _, H1.out.1⟩, H1.out.2⟩⟩
  case round =>
    clear d01 hgl1
    obtain ⟨k, rfl, hk, rfl, rfl, hJ⟩ := hrel
    by_cases hlt : k < s.length
    · obtain ⟨t, ht⟩ : ∃ t, s[k]? = some t := ⟨_, List.getElem?_eq_getElem hlt⟩
      have e0 := pageS_len_at (sz := sz) 0 ht (by omega)
      have e1 := pageS_len_at (sz := sz) 1 ht (by omega)
      have hos := offS_succ ht
      have hol := offS_le s (k + 1)
      have htb := H.out.2.2.2.1 t (List.mem_of_getElem? ht)
      obtain ⟨n, hn⟩ : ∃ n, t.length = n := ⟨_, rfl⟩
      obtain ⟨o, hoo⟩ : ∃ o, offS s k = o := ⟨_, rfl⟩
      rw [hn] at e0 e1 hos htb
      rw [hoo] at hos ⊢
      obtain ⟨x1, x2, ex, hx1, hx2, hx⟩ := encL_get n (by omega)
      rw [ex] at e0 e1
      have d1 := (hJ.gr.cell (p := ⟨g, 1 + (2 * k + 0), none⟩) hgl id).trans (H.out.2.2.1 _ _ e0)
      have d2 := (hJ.gr.cell (p := ⟨g, 1 + (2 * k + 1), none⟩) hgl id).trans (H.out.2.2.1 _ _ e1)
      rw [show 1 + (2 * k + 0) = 1 + 2 * k by omega] at d1
      rw [show 1 + (2 * k + 1) = 1 + 2 * k + 1 by omega] at d2
      have hor := or_le2 x1 x2 hx1 hx2
      rw [hx] at hor
      have hgl2 := Nat.lt_of_lt_of_le hgl hJ.gr.size
      have q1 : x1 ≤ 255 := by omega
      have q2 : x2 ≤ 255 := by omega
      have hT1 : ((1 : Int) + 2 * (k : Int)).toNat = 1 + 2 * k := by omega
      have hT2 : ((1 : Int) + 2 * (k : Int) + 1).toNat = 1 + 2 * k + 1 := by omega
      have b0 : (0 : Int) ≤ 1 + 2 * (k : Int) := by omega
      have b1 : (1 : Int) + 2 * (k : Int) < (sz : Int) := by omega
      have b2 : (0 : Int) ≤ 1 + 2 * (k : Int) + 1 := by omega
      have b3 : (1 : Int) + 2 * (k : Int) + 1 < (sz : Int) := by omega
      have H2 := Lib.hid (And.intro hJ (And.intro ht (And.intro hn (And.intro hoo (And.intro hos hol)))))
      clear hJ ht hn hoo ex e0 e1 hx
      go_wp2_with fail
      go_quiet (fail)
      go_wp2_with fail
      obtain ⟨A', c', vs', hp⟩ := H2.out.1.pg
      have hlk : (s.take k).length = k := by rw [List.length_take]; omega
      obtain ⟨c0, f0, s0⟩ := hp.blk.facts
      rw [hlk] at c0
      obtain ⟨W2, hW2⟩ : ∃ W, wr.drewN nq = W := ⟨_, rfl⟩
      rw [hW2]
      have hg2 : Grew wr W2 := hW2 ▸ (Chg.refl _ _).drewN _
      have hd1 : W2.drew.cell? ⟨w.heap.size, 1, none⟩ = some (.slice A' k c') := (hg2.cell (p := ⟨w.heap.size, 1, none⟩) s0 id).trans (c0 1)
      have hT3 : ((o : Int) + (n : Int)).toNat - o = n := by omega
      have hon : (o : Int) + (n : Int) ≤ (cb : Int) := by omega
      have hwr : IntKind.i64.wrap ((o : Int) + (n : Int)) = (o : Int) + (n : Int) := wrap_nat (n := o + n) (by omega)
      have hoz : 0 ≤ (o : Int) + (n : Int) := by omega
      have hole : o ≤ ((o : Int) + (n : Int)).toNat := by omega
      have hco : ¬ cb = o := by
        have h7 := offS_lt hlt H.out.2.1.last
        rw [H2.out.2.2.2.1] at h7
        omega
      have hon2 : o + n ≤ sz := by omega
      have HCl := Lib.hid (show Calls Tryz.prog 97 #[.slice (some ⟨g, o, none⟩) n (cb - o)] W2.drew fun e w' => OwnOut W2.drew w' 5 1 n (bv t) (fun A c => .slice A n c) e from by
        have hgw : Grew w W2.drew := (Grew.trans H2.out.1.gr hg2).drew
        have hsl := Sl.of_own H.out.1
        have hpl : (pageS s sz).length = sz := pageS_len hlen
        have hsl2 : Sl w 1 (some ⟨g, 0, none⟩) (pageS s sz).length (bv (pageS s sz)) := by rw [hpl]; exact hsl
        have hst := pageS_slot (sz := sz) H2.out.2.1
        rw [H2.out.2.2.2.1, H2.out.2.2.1] at hst
        have h3 := hsl2.sub (i := o) (m := n) (by omega) t hst.symm
        rw [Nat.zero_add] at h3
        have := bclone_any (some ⟨g, o, none⟩) (by simp) t (cb - o) W2.drew (by have := H2.out.2.2.1; omega) (h3.grew hgw)
        rw [H2.out.2.2.1] at this
        exact this)
      have HP := Lib.hid (And.intro hp (And.intro hg2 hlk))
      clear hp hg2 hW2 c0 f0 s0 d1 d2 hT1 hT2 b0 b1 b2 b3 hlk
      refine wp_region_y [16] (S := fun w' => w'.cell? ⟨w.heap.size, 1, none⟩ = some (.slice A' k c')) (by kernel_rfl) hd1 (fun hHeld => ?_)
      refine wpAnyY_takeP (i := 0) (v := ?_) rfl (by kernel_rfl) (by kernel_rfl) (by kernel_rfl) (fun _ _ _ h => h) (Or.inl ⟨by rfl, ?_⟩) ?_
      rotate_left
      · (intro w hSw; go_simp) <;> with_reducible rfl
      (try simp only [Act.put, List.setIfInBounds_toArray, List.set_cons_zero, List.set_cons_succ, List.getElem_toArray, List.getElem_cons_zero, List.getElem_cons_succ])
      refine wpAnyY_takeP (i := 1) (v := ?_) rfl (by kernel_rfl) (by kernel_rfl) (by kernel_rfl) (fun _ _ _ h => h) (Or.inl ⟨by rfl, ?_⟩) ?_
      rotate_left
      · (intro w hSw; go_simp) <;> with_reducible rfl
      (try simp only [Act.put, List.setIfInBounds_toArray, List.set_cons_zero, List.set_cons_succ, List.getElem_toArray, List.getElem_cons_zero, List.getElem_cons_succ])
      refine wpAnyY_takeP (i := 2) (v := ?_) rfl (by kernel_rfl) (by kernel_rfl) (by kernel_rfl) (fun _ _ _ h => h) (Or.inl ⟨by rfl, ?_⟩) ?_
      rotate_left
      · (intro w hSw; go_simp) <;> with_reducible rfl
      (try simp only [Act.put, List.setIfInBounds_toArray, List.set_cons_zero, List.set_cons_succ, List.getElem_toArray, List.getElem_cons_zero, List.getElem_cons_succ])
      refine wpAnyY_takeP (i := 3) (v := ?_) rfl (by kernel_rfl) (by kernel_rfl) (by kernel_rfl) (fun _ _ _ h => h) (Or.inl ⟨by rfl, ?_⟩) ?_
      rotate_left
      · (intro w hSw; go_simp) <;> with_reducible rfl
      (try simp only [Act.put, List.setIfInBounds_toArray, List.set_cons_zero, List.set_cons_succ, List.getElem_toArray, List.getElem_cons_zero, List.getElem_cons_succ])
      refine wpAnyY_takeP (i := 5) (v := ?_) rfl (by kernel_rfl) (by kernel_rfl) (by kernel_rfl) (fun _ _ _ h => h) (Or.inl ⟨by rfl, ?_⟩) ?_
      rotate_left
      · (intro w hSw; go_simp) <;> with_reducible rfl
      (try simp only [Act.put, List.setIfInBounds_toArray, List.set_cons_zero, List.set_cons_succ, List.getElem_toArray, List.getElem_cons_zero, List.getElem_cons_succ])
      refine wpAnyY_takeP (i := 6) (v := ?_) rfl (by kernel_rfl) (by kernel_rfl) (by kernel_rfl) (fun _ _ _ h => h) (Or.inl ⟨by rfl, ?_⟩) ?_
      rotate_left
      · (intro w hSw; go_simp) <;> with_reducible rfl
      (try simp only [Act.put, List.setIfInBounds_toArray, List.set_cons_zero, List.set_cons_succ, List.getElem_toArray, List.getElem_cons_zero, List.getElem_cons_succ])
      refine wpAnyY_takeP (i := 7) (v := ?_) rfl (by kernel_rfl) (by kernel_rfl) (by kernel_rfl) (fun _ _ _ h => h) (Or.inl ⟨by rfl, ?_⟩) ?_
      rotate_left
      · (intro w hSw; go_simp) <;> with_reducible rfl
      (try simp only [Act.put, List.setIfInBounds_toArray, List.set_cons_zero, List.set_cons_succ, List.getElem_toArray, List.getElem_cons_zero, List.getElem_cons_succ])
      refine wpAnyY_takeP (i := 8) (v := ?_) rfl (by kernel_rfl) (by kernel_rfl) (by kernel_rfl) (fun _ _ _ h => h) (Or.inl ⟨by rfl, ?_⟩) ?_
      rotate_left
      · (intro w hSw; go_simp) <;> with_reducible rfl
      (try simp only [Act.put, List.setIfInBounds_toArray, List.set_cons_zero, List.set_cons_succ, List.getElem_toArray, List.getElem_cons_zero, List.getElem_cons_succ])
      refine wpAnyY_takeP (i := 9) (v := ?_) rfl (by kernel_rfl) (by kernel_rfl) (by kernel_rfl) (fun _ _ _ h => h) (Or.inl ⟨by rfl, ?_⟩) ?_
      rotate_left
      · (intro w hSw; go_simp) <;> with_reducible rfl
      (try simp only [Act.put, List.setIfInBounds_toArray, List.set_cons_zero, List.set_cons_succ, List.getElem_toArray, List.getElem_cons_zero, List.getElem_cons_succ])
      refine wpAnyY_takeP (i := 10) (v := ?_) rfl (by kernel_rfl) (by kernel_rfl) (by kernel_rfl) (fun _ _ _ h => h) (Or.inl ⟨by rfl, ?_⟩) ?_
      rotate_left
      · (intro w hSw; go_simp) <;> with_reducible rfl
      (try simp only [Act.put, List.setIfInBounds_toArray, List.set_cons_zero, List.set_cons_succ, List.getElem_toArray, List.getElem_cons_zero, List.getElem_cons_succ])
      refine wpAnyY_take (i := 4) (v := ?_) rfl (by kernel_rfl) (by kernel_rfl) (by kernel_rfl) (by kernel_rfl) (fun _ _ _ h => h) (Or.inl ⟨by rfl, ?_⟩) hHeld ?_
      rotate_left
      · (intro w hSw; (try dsimp only at hSw); go_simp) <;> with_reducible rfl
      (try simp only [Act.put, List.setIfInBounds_toArray, List.set_cons_zero, List.set_cons_succ, List.getElem_toArray, List.getElem_cons_zero, List.getElem_cons_succ])
      refine wpAnyY_ready (rs := [11]) (by kernel_rfl) (by simp) ?_
      refine AllReadyY.cons rfl (fun K hK => ?_) AllReadyY.nil
      go_simp
      refine HCl.out.mono ?_
      rintro e w5 ⟨A5, c5, rfl, ho5, hg5⟩
      have hg25 : Grew W2 w5 := Grew.trans ((Chg.refl NoF W2).drew) hg5
      have hp5 := HP.out.1.grew (Grew.trans HP.out.2.1 hg25)
      have hd5 : w5.cell? ⟨w.heap.size, 1, none⟩ = some (.slice A' k c') := by have := hp5.blk.cell 1; rw [HP.out.2.2] at this; exact this
      have hz5 : w.heap.size ≤ w5.heap.size := by have := hp5.blk.lt; omega
      have H5 := Lib.hid (And.intro hp5 (And.intro (own_base ho5 (show w.heap.size ≤ W2.heap.size by have := HP.out.2.1.size; have := H2.out.1.gr.size; omega)) (And.intro hg25 hz5)))
      clear ho5 hg5 hp5 hg25
      refine hK.out _ _ (fun _ _ => hd5) ?_
      clear hK K
      (try simp only [Act.put, List.setIfInBounds_toArray, List.set_cons_zero, List.set_cons_succ, List.getElem_toArray, List.getElem_cons_zero, List.getElem_cons_succ])
      refine wpAnyY_ready (rs := [12]) (by kernel_rfl) (by simp) ?_
      refine AllReadyY.cons rfl (fun K hK => ?_) AllReadyY.nil
      go_simp
      have hd6 : (w5.alloc (.cells #[.slice A5 n c5] 34)).cell? ⟨w.heap.size, 1, none⟩ = some (.slice A' k c') := (((Chg.refl NoF w5).alloc (.cells #[.slice A5 n c5] 34)).cell (p := ⟨w.heap.size, 1, none⟩) H5.out.1.blk.lt id).trans hd5
      refine hK.out _ _ (fun _ _ => hd6) ?_
      clear hK K
      (try simp only [Act.put, List.setIfInBounds_toArray, List.set_cons_zero, List.set_cons_succ, List.getElem_toArray, List.getElem_cons_zero, List.getElem_cons_succ])
      refine wpAnyY_ready (rs := [13]) (by kernel_rfl) (by simp) ?_
      refine AllReadyY.cons rfl (fun K hK => ?_) AllReadyY.nil
      have hrow := H5.out.1.row
      have hk6 : k ≤ 1000000 := by omega
      rw [HP.out.2.2] at hrow
      refine step_app_row (by rfl) _ _ (by rfl) w.heap.size _ k vs' (by rfl) hrow (.slice A5 n c5) rfl (by rfl) hk6 H5.out.2.2.2 ?_
      intro v7 w7 hown7 hap7
      have HQ := Lib.hid (H5.out.1.push (v := .slice A5 n c5) (t := t) (by rw [HP.out.2.2]; exact hown7) (by rw [HP.out.2.2]; exact hap7) (by rw [H2.out.2.2.1]; exact H5.out.2.1) H5.out.2.2.2)
      clear hown7 hap7 hrow
      obtain ⟨A8, c8, rfl, hp8, hb8, hc8⟩ := HQ.out
      rw [HP.out.2.2] at hb8 hp8 hc8
      have hd8 : w7.cell? ⟨w.heap.size, 1, none⟩ = some (.slice A' k c') := hb8.cell 1
      obtain ⟨c9, f9, s9⟩ := hb8.facts
      rw [HP.out.2.2]
      have H8 := Lib.hid (And.intro hp8 hc8)
      clear hp8 hb8 hc8 HQ
      refine hK.out _ _ (fun _ _ => hd8) ?_
      clear hK K
      (try simp only [Act.put, List.setIfInBounds_toArray, List.set_cons_zero, List.set_cons_succ, List.getElem_toArray, List.getElem_cons_zero, List.getElem_cons_succ])
      refine wpAnyY_takeP (i := 14) (v := ?_) rfl (by kernel_rfl) (by kernel_rfl) (by kernel_rfl) (fun _ _ _ h => h) (Or.inl ⟨by rfl, ?_⟩) ?_
      rotate_left
      · (intro w hSw; go_simp) <;> with_reducible rfl
      (try simp only [Act.put, List.setIfInBounds_toArray, List.set_cons_zero, List.set_cons_succ, List.getElem_toArray, List.getElem_cons_zero, List.getElem_cons_succ])
      refine wpAnyY_takeP (i := 15) (v := ?_) rfl (by kernel_rfl) (by kernel_rfl) (by kernel_rfl) (fun _ _ _ h => h) (Or.inl ⟨by rfl, ?_⟩) ?_
      rotate_left
      · (intro w hSw; go_simp) <;> with_reducible rfl
      (try simp only [Act.put, List.setIfInBounds_toArray, List.set_cons_zero, List.set_cons_succ, List.getElem_toArray, List.getElem_cons_zero, List.getElem_cons_succ])
      refine wpAnyY_ready (rs := [16]) (by kernel_rfl) (by simp) ?_
      refine AllReadyY.cons rfl (fun K hK => ?_) AllReadyY.nil
      go_simp
      obtain ⟨W9, hW9⟩ : ∃ W, w7.setCell ⟨w.heap.size, 1, none⟩ (.slice A8 (k + 1) c8) = W := ⟨_, rfl⟩
      rw [hW9] at H8 ⊢
      refine hK.out _ _ (fun e _ => by simp at e) ?_
      clear hK K
      (try simp only [Act.put, List.setIfInBounds_toArray, List.set_cons_zero, List.set_cons_succ, List.getElem_toArray, List.getElem_cons_zero, List.getElem_cons_succ])
      refine wpAnyY_done (by kernel_rfl) ?_ _
      have H9 := Lib.hid (show LdG w W9 sz (k + 1) s from ⟨⟨A8, c8, _, by rw [List.take_add_one, H2.out.2.1]; exact H8.out.1⟩, Chg.trans (Grew.trans (Grew.trans H2.out.1.gr HP.out.2.1) H5.out.2.2.1) H8.out.2 fun j hj e => by omega⟩)
      clear hHeld hd1 hd5 hd6 hd8 c9 f9 s9 hW9 H8 hT3 hon hwr hoz hole hco hon2 hk6
      go_wp2_with fail
      go_roundg (s.length - (k + 1))
      case measure => omega
      case rel => exact ⟨k + 1, rfl, by omega, by rw [hos]; simp, by simp, H9.out⟩
    · obtain rfl : k = s.length := by omega
      have hpg := hJ.pg
      rw [List.take_length] at hpg
      have hlast : hasS s (s.length - 1) = true := by
        obtain ⟨b, hb⟩ : ∃ b, s.getLast? = some b := ⟨_, List.getLast?_eq_some_getLast H.out.2.2.2.2⟩
        have h1 := H.out.2.1.last b hb
        rw [List.getLast?_eq_getElem?] at hb
        exact hasS_true hb h1
      have hha := has_any w.heap.size w.heap.size sz (s.length - 1) s wr hpg (by omega) (by omega)
      rw [hlast, show ((s.length - 1 : Nat) : Int) = (s.length : Int) - 1 by omega] at hha
      have hfl : 0 < s.flatten.length := by
        have h1 := offS_lt hs1 H.out.2.1.last
        rw [offS_zero] at h1
        omega
      have HHa := Lib.hid hha
      have HBy := Lib.hid (sbytes_any w.heap.size w.heap.size sz s wr hpg H.out.2.1 hz hfl)
      have HJ := Lib.hid (And.intro hpg hJ.gr)
      have t5 : decide (0 < s.length) = true := decide_eq_true hs1
      clear hJ hpg hha hlast hlt hk t1 t2
      go_wp2_with fail
      refine HHa.out.mono ?_
      rintro e w2 ⟨rfl, rfl⟩
      go_wp2_with fail
      refine HBy.out.mono ?_
      rintro e w3 ⟨A3, c3, rfl, ho3, hg3⟩
      have heq := beq_any A3 (some ⟨g, 0, none⟩) (pageS s sz) (pageS s sz) c3 cb w3
      rw [pageS_len hlen] at heq
      have HE := Lib.hid (heq (Sl.of_own ho3) (((Sl.of_own H.out.1).grew HJ.out.2).grew hg3))
      have HG3 := Lib.hid (Grew.trans HJ.out.2 hg3)
      have HP3 := Lib.hid (HJ.out.1.grew hg3)
      clear heq ho3 hg3
      have heb : eqB (pageS s sz) (pageS s sz) = true := by
        have hby : ∀ q ∈ pageS s sz, 0 ≤ q ∧ q ≤ 255 := pageS_byt H.out.2.1
        rw [eqB_eq hby hby]
        exact decide_eq_true rfl
      rw [heb] at HE
      clear heb
      go_wp2_with fail
      refine HE.out.mono ?_
      rintro e w4 ⟨rfl, rfl⟩
      go_wp2_with fail
      go_ret2
      exact ⟨rfl, HP3.out, HG3.out⟩
end Go.Proofs.YtjkkoogfaibhiaaGreatDoor

/- Slotted pages in memory: All, Len. -/
namespace Go.Proofs.YtjkkoogfaibhiaaGreatDoor
open Go.RowKit Go.Maps
attribute [local go_sem] Oper.semAt_some

theorem sall_any (b : Nat) (w W : World) (hW : w.alloc (.cells #[.pointer (some ⟨b, 0, none⟩)] 66) = W) :
    Calls Tryz.prog 70 #[.pointer (some ⟨b, 0, none⟩)] w fun e w' => e = .returned (.func (.func 100) #[] #[.pointer (some ⟨w.heap.size, 0, none⟩)]) ∧ W = w' := by
  subst hW
  go_enter Tryz.func70, Tryz.ntmps70
  go_wp2
  go_ret
  exact ⟨rfl, rfl⟩
set_option maxRecDepth 100000 in
set_option maxHeartbeats 1600000 in
theorem sall_iter (bb b y lo sz : Nat) (s : Sls) (A : Option Addr) (c : Nat) (vs : List Value) (J : Nat → World → Prop) (w : World) (hl : s.length ≤ 1000) (hb : ∀ b' ∈ s, b'.length ≤ 4096)
    (hbb : Blk w bb 66 #[.pointer (some ⟨b, 0, none⟩)]) (hp : PgAt w lo b sz s A c vs)
    (hin : ∀ k W, J k W → PgAt W lo b sz s A c vs)
    (hgr : ∀ k W W', J k W → Grew W W' → J k W')
    (hskip : ∀ k W, J k W → s[k]? = some [] → J (k + 1) W)
    (hyld : ∀ k t A c W, J k W → s[k]? = some t → t ≠ [] → YieldAt Fence.wide 0 Tryz.prog y #[.int .i64 k, .slice A t.length c] W (Rounded (J (k + 1)) fun _ => False))
    (h0 : J 0 w) :
    Calls Tryz.prog 100 #[.func (.yield y) #[] #[], .pointer (some ⟨bb, 0, none⟩)] w fun e w' => IterEnd (J s.length) (fun _ => False) e w' := by
  have Hin := Lib.hid (And.intro hin (And.intro hgr (And.intro hskip (And.intro hyld hb))))
  have H0 := Lib.hid h0
  obtain ⟨c0, f0, s0⟩ := hbb.facts
  obtain ⟨c1, f1, s1⟩ := hp.blk.facts
  have HA := Lib.hid hin
  clear hin hyld h0 hbb hp hgr hskip hb
  (refine (callsIn_wide (n := 1)).1 (callsIn_of_wp Tryz.func100 rfl trivial ?_ rfl); simp only [Tryz.ntmps100, List.size_toArray, List.length_cons, List.length_nil, Nat.reduceAdd, Nat.reduceSub, Array.replicate_succ, Array.replicate_zero, List.push_toArray, List.append_toArray, List.nil_append, List.cons_append])
  gi_wp2
  gi_loopg [10] s.length (fun n i wr => ∃ k : Nat, n = s.length - k ∧ k ≤ s.length ∧ i = .int .i64 k ∧ J k wr)
  case atStart => exact ⟨0, by simp, by omega, rfl, H0.out⟩
  case round =>
    clear c0 f0 s0 c1 f1 s1
    obtain ⟨k, rfl, hk, rfl, hJ⟩ := hrel
    by_cases hlt : k < s.length
    · obtain ⟨t, ht⟩ : ∃ t, s[k]? = some t := ⟨_, List.getElem?_eq_getElem hlt⟩
      obtain ⟨g, Ai, ci, rfl, hg, -, hce, hob⟩ := (HA.out k wr hJ).cell ht
      have htl := Hin.out.2.2.2.2 t (List.mem_of_getElem? ht)
      by_cases ht0 : t = []
      · subst ht0
        have HJ := Lib.hid (Hin.out.2.2.1 k wr hJ ht)
        clear hJ ht hob
        gi_wp2
        refine ⟨trivial, ?_⟩
        gi_wp2
        refine ⟨fun _ h => (by cases h), ?_⟩
        gi_wp2
        gi_roundg (s.length - (k + 1))
        case measure => omega
        case rel => exact ⟨k + 1, rfl, by omega, by simp, HJ.out⟩
      · have htp : 0 < t.length := List.length_pos_iff.2 ht0
        obtain ⟨gi, rfl, -⟩ := own_block hob htp
        have t1 : decide (0 < t.length) = true := decide_eq_true htp
        have HC := Lib.hid (bclone_any (some ⟨gi, 0, none⟩) (by simp) t ci wr (by omega) (Sl.of_own hob))
        have HJ := Lib.hid (And.intro hJ (And.intro ht ht0))
        clear hJ ht hob ht0
        gi_wp2_with (first
          | (refine HR.out.mono ?_; rintro e w5 (⟨rfl, hJ2⟩ | ⟨rfl, hJ2⟩); rotate_left; exact hJ2.elim; have HJ2 := Lib.hid hJ2; clear hJ2)
          | (refine ⟨trivial, ?_⟩; gi_at_call 97; refine (callsIn_wide.2 HC.out).mono ?_; rintro e w4 ⟨A4, c4, rfl, ho4, hg4⟩; obtain ⟨fn, tmps, assign, body, hy, hR⟩ := Hin.out.2.2.2.1 k t A4 c4 w4 (Hin.out.2.1 k wr w4 HJ.out.1 hg4) HJ.out.2.1 HJ.out.2.2; have HR := Lib.hid hR; clear ho4 hg4 hR))
        gi_roundg (s.length - (k + 1))
        case measure => omega
        case rel => exact ⟨k + 1, rfl, by omega, by simp, HJ2.out⟩
    · obtain rfl : k = s.length := by omega
      have HJ := Lib.hid hJ
      clear hJ
      gi_wp2
      refine bodyPost_end (results_none rfl _ _ _) rfl ?_
      exact ⟨⟨_, rfl⟩, .inl HJ.out⟩
/-- How many slots have something. -/
def cntS (s : Sls) : Nat := s.countP fun b => !b.isEmpty
theorem cntS_take {s : Sls} {k : Nat} {t : List Int} (h : s[k]? = some t) : cntS (s.take (k + 1)) = cntS (s.take k) + if t = [] then 0 else 1 := by
  unfold cntS
  rw [List.take_add_one, h, List.countP_append]
  cases t <;> simp
theorem cntS_le (s : Sls) : cntS s ≤ s.length := List.countP_le_length
/-- Between two rounds of Len. -/
structure SLn (w Wr W : World) (nb L n : Nat) (r : Loop) (st : LoopState) (pe : Option Code) : Prop where
  gr : Grew w W
  chg : Chg (fun j => j = nb ∨ j = L) Wr W
  cnt : Blk W nb 3 #[.int .i64 n]
  rc : Rec W L (Loop.at_ r st pe)
section
variable {w Wr W W' : World} {nb L n : Nat} {r : Loop} {st st' : LoopState} {pe pe' : Option Code}
theorem SLn.grew (h : SLn w Wr W nb L n r st pe) (hg : Grew W W') : SLn w Wr W' nb L n r st pe := ⟨Grew.trans h.gr hg, h.chg.grew hg, h.cnt.grew hg, h.rc.grew hg⟩
theorem SLn.kept (h : SLn w Wr W nb L n r st pe) (hL : w.heap.size ≤ L) (hk : Kept L W W') (hR : Rec W' L (Loop.at_ r st' pe')) : SLn w Wr W' nb L n r st' pe' :=
  ⟨Chg.trans h.gr hk.chg fun i hi e => by omega, Chg.trans h.chg hk.chg fun i _ e => .inr e, h.cnt.kept hk, hR⟩
theorem SLn.set (h : SLn w Wr W nb L n r st pe) (hn : w.heap.size ≤ nb) (hne : L ≠ nb) {n' : Nat} (hW : W.setCell ⟨nb, 0, none⟩ (.int .i64 n') = W') : SLn w Wr W' nb L n' r st pe := by
  have hc : Chg (fun j => j = nb) W W' := hW ▸ (Chg.refl (fun j => j = nb) W).setCell (p := ⟨nb, 0, none⟩) (fun _ => rfl) _
  refine ⟨Chg.trans h.gr hc fun i hi e => by omega, Chg.trans h.chg hc fun i _ e => .inl e, ?_, h.rc.chg hc hne⟩
  have := h.cnt.put 0 (.int .i64 n')
  rw [hW] at this
  simpa using this
end
set_option maxRecDepth 100000 in
set_option maxHeartbeats 3200000 in
theorem slen_any (lo b sz : Nat) (s : Sls) (w : World) (hp : Pg w lo b sz s) (hl : s.length ≤ 1000) (hb : ∀ b' ∈ s, b'.length ≤ 4096) :
    Calls Tryz.prog 35 #[.pointer (some ⟨b, 0, none⟩)] w fun e w' => e = .returned (.int .i64 (cntS s)) ∧ Grew w w' := by
  obtain ⟨W0, hW0⟩ : ∃ W0, w.alloc (.cells #[.int .i64 0] 3) = W0 := ⟨_, rfl⟩
  obtain ⟨W1, hW1⟩ : ∃ W1, W0.alloc (.cells #[.pointer (some ⟨b, 0, none⟩)] 66) = W1 := ⟨_, rfl⟩
  have hz0 : W0.heap.size = w.heap.size + 1 := by subst hW0; simp
  have hz1 : W1.heap.size = w.heap.size + 2 := by subst hW1; simp [hz0]
  have hg0 : Grew w W0 := hW0 ▸ (Chg.refl _ _).alloc _
  have hg1 : Grew W0 W1 := hW1 ▸ (Chg.refl _ _).alloc _
  have hn1 : Blk W1 w.heap.size 3 #[.int .i64 0] := (show Blk W0 w.heap.size 3 #[.int .i64 0] from hW0 ▸ Blk.new _ _ _).grew hg1
  have hb1 : Blk W1 (w.heap.size + 1) 66 #[.pointer (some ⟨b, 0, none⟩)] := by
    have := Blk.new W0 66 #[.pointer (some ⟨b, 0, none⟩)]
    rw [hW1, hz0] at this
    exact this
  have hea := sall_any b W0 W1 hW1
  rw [hz0] at hea
  have H := Lib.hid (And.intro hp (And.intro hea (And.intro hW0 (And.intro hn1 (And.intro hb1 (And.intro (Grew.trans hg0 hg1) hz1))))))
  have HB := Lib.hid hb
  clear hp hea hW0 hW1 hn1 hb1 hg0 hg1 hz0 hz1 hb
  (refine calls_of_marks Tryz.func35 rfl ?_; simp only [Tryz.ntmps35, List.size_toArray, List.length_cons, List.length_nil, Nat.reduceAdd, Nat.reduceSub, Array.replicate_succ, Array.replicate_zero, List.push_toArray, List.append_toArray, List.nil_append, List.cons_append])
  go_wp2_with fail
  rw [H.out.2.2.1]
  refine H.out.2.1.mono ?_
  rintro e w1 ⟨rfl, rfl⟩
  go_wp2_with fail
  refine wp_range (gf := 100) (lb := #[.pointer (some ⟨w.heap.size + 1, 0, none⟩)]) rfl (enters_of Tryz.func100 (by kernel_rfl) rfl) ?_
  intro r Wr D2 Lr hr hgr hDl hLl hD hR
  have hDL := Ne.symm (hR.ne_dfr hD)
  have hsr := hgr.size
  have hz1 := H.out.2.2.2.2.2.2
  have hL2 := hR.lt
  have hD2 := hD.lt
  have hgw : Grew w Wr := Grew.trans H.out.2.2.2.2.2.1 hgr
  have hnr : Blk Wr w.heap.size 3 #[.int .i64 0] := H.out.2.2.2.1.grew hgr
  have hbr : Blk Wr (w.heap.size + 1) 66 #[.pointer (some ⟨b, 0, none⟩)] := H.out.2.2.2.2.1.grew hgr
  have hLn : Lr ≠ w.heap.size := hR.ne_blk hnr
  have HR1 := Lib.hid (And.intro hr (And.intro hR (And.intro hgw (And.intro hD (And.intro hnr hbr)))))
  clear hr hR hgw hD hgr hnr hbr
  have hnl : w.heap.size ≤ w.heap.size := Nat.le_refl _
  have hLw : w.heap.size ≤ Lr := by omega
  obtain ⟨A, c, vs, hp0⟩ := H.out.1
  have HP0 := Lib.hid hp0
  clear hp0
  refine (sall_iter (w.heap.size + 1) b Lr lo sz s A c vs (fun k W => SLn w Wr W w.heap.size Lr (cntS (s.take k)) r .ready none) Wr hl HB.out HR1.out.2.2.2.2.2 (HP0.out.grew HR1.out.2.2.1)
    (fun k W h => HP0.out.grew h.gr) (fun k W W' h hg => h.grew hg) (fun k W h hk => by
      have := cntS_take hk
      rw [if_pos rfl, Nat.add_zero] at this
      rw [this]
      exact h) (fun k t A' c' W h hk hne => ?yld) ⟨HR1.out.2.2.1, Chg.refl _ _, HR1.out.2.2.2.2.1, HR1.out.2.1⟩).mono ?post
  case yld =>
    have hct := cntS_take hk
    rw [if_neg hne] at hct
    have HC := Lib.hid hct
    have HJ := Lib.hid h
    obtain ⟨n, hn⟩ : ∃ n, cntS (s.take k) = n := ⟨_, rfl⟩
    have hnb : n ≤ 1000 := by rw [← hn]; have := cntS_le (s.take k); rw [List.length_take] at this; omega
    rw [hn] at HJ HC
    clear h hk hne hct hn
    obtain ⟨hr1, hr2, hr3, hr4⟩ := HR1.out.1
    refine yield_wide HJ.out.rc (by rw [hr2]; rfl) ?_
    rw [hr1, hr2, hr3, hr4]
    clear hr1 hr2 hr3 hr4
    intro K hK
    have HK := Lib.hid hK
    clear hK
    gi_wp2
    refine HK.out _ _ HJ.out.rc fun W3 Q hk3 hR2 hQ => ?_
    have HQ := Lib.hid hQ
    have HJ3 := Lib.hid (HJ.out.kept hLw hk3 hR2)
    have HK3 := Lib.hid hk3
    clear hk3 hR2 hQ
    obtain ⟨c0, f0, s0⟩ := HJ3.out.cnt.facts
    gi_wp2
    obtain ⟨W5, hW5⟩ : ∃ W5, W3.setCell ⟨w.heap.size, 0, none⟩ (.int .i64 ((n + 1 : Nat) : Int)) = W5 := ⟨_, rfl⟩
    have hJ5 := HJ3.out.set hnl hLn hW5
    have hW5' : W3.setCell ⟨w.heap.size, 0, none⟩ (.int .i64 ((n : Int) + 1)) = W5 := by rw [← hW5]; simp
    rw [hW5']
    have hc5 : Chg (fun j => j = w.heap.size) W3 W5 := hW5 ▸ (Chg.refl (fun j => j = w.heap.size) W3).setCell (p := ⟨w.heap.size, 0, none⟩) (fun _ => rfl) _
    exact HQ.out _ _ _ ⟨hJ5.rc, fun w' hk' hR' => .inl ⟨rfl, by rw [HC.out]; exact hJ5.kept hLw hk' hR'⟩⟩
  case post =>
    rintro e w3 ⟨hv, hJ | hJ⟩
    · rw [List.take_length] at hJ
      refine ⟨hv, .inl ⟨hJ.rc, fun w4 hk4 => ?_⟩⟩
      have hc4 := Chg.trans hJ.chg hk4.chg fun i _ e => .inr e
      have hD4 := HR1.out.2.2.2.1.chg hc4 (fun e => by rcases e with e | e <;> omega)
      have hn4 := hJ.cnt.kept hk4
      have H4 := Lib.hid (And.intro (Chg.trans hJ.gr hk4.chg (F := NoF) fun i hi e => by omega) hD4)
      clear hc4 hD4 hJ hk4
      obtain ⟨c2, f2, s2⟩ := hn4.facts
      go_wp2
      refine postM_ret1 (v := .int .i64 (cntS s)) (D := D2) H4.out.2 rfl fun w6 hk6 => ?_
      refine ⟨by simp [results, Tryz.results35, go_sem], rfl, ?_⟩
      exact Chg.trans H4.out.1 hk6.chg (F := NoF) fun i hi e => by omega
    · exact hJ.elim
end Go.Proofs.YtjkkoogfaibhiaaGreatDoor

/- Slotted pages in memory: Del. -/
namespace Go.Proofs.YtjkkoogfaibhiaaGreatDoor
open Go.RowKit Go.Maps

theorem trimS_nil_end (s : Sls) : trimS (s ++ [[]]) = trimS s := by
  induction s with
  | nil => rfl
  | cons a s ih => rw [List.cons_append]; unfold trimS; rw [ih]
theorem trimS_self : ∀ (s : Sls), (∀ b, s.getLast? = some b → b ≠ []) → trimS s = s
  | [], _ => rfl
  | a :: s, h => by
    cases s with
    | nil =>
      have := h a rfl
      unfold trimS
      simp [trimS, this]
    | cons b s =>
      have ih := trimS_self (b :: s) fun c hc => h c (by rw [List.getLast?_cons_cons]; exact hc)
      unfold trimS
      rw [ih]
theorem take_last {s : Sls} {n : Nat} {b : List Int} (h : s[n]? = some b) (hl : s.length = n + 1) : s = s.take n ++ [b] := by
  have := List.take_add_one (l := s) (i := n)
  rw [h] at this
  rw [List.take_of_length_le (by omega)] at this
  exact this
theorem PgAt.short {W : World} {lo b sz g c : Nat} {s : Sls} {vs : List Value} (h : PgAt W lo b sz s (some ⟨g, 0, none⟩) c vs) {m : Nat} (hm : m ≤ s.length) :
    PgAt (W.setCell ⟨b, 1, none⟩ (.slice (some ⟨g, 0, none⟩) m c)) lo b sz (s.take m) (some ⟨g, 0, none⟩) c (vs.take m) := by
  have hc : Chg (fun j => j = b) W (W.setCell ⟨b, 1, none⟩ (.slice (some ⟨g, 0, none⟩) m c)) := (Chg.refl (fun j => j = b) W).setCell (p := ⟨b, 1, none⟩) (fun _ => rfl) _
  have hlm : (s.take m).length = m := by rw [List.length_take]; omega
  have hvl : vs.length = s.length := by have := h.row.1; omega
  have hro : ∀ (e : TypeId) (k : Nat) (u : Value) n xs, W.ownsRow lo e k u n xs → e ≠ 115 → (W.setCell ⟨b, 1, none⟩ (.slice (some ⟨g, 0, none⟩) m c)).ownsRow lo e k u n xs := fun e k u n xs hr hne => own_chg hr hc fun q hq e => by
    subst e
    exact own_blk_ne hr h.blk hne hq
  refine ⟨?_, ?_, fun i b' hi => ?_, h.lo⟩
  · have := h.blk.put 1 (.slice (some ⟨g, 0, none⟩) m c)
    rw [hlm]
    simpa using this
  · rw [hlm]
    have := own_short (m := m) h.row hm
    rw [Nat.mul_one] at this
    exact hro _ _ _ _ _ this (by decide)
  · rw [List.getElem?_take] at hi
    split at hi
    · rename_i him
      obtain ⟨v, h1, h2⟩ := h.at_ i b' hi
      exact ⟨v, by rw [List.getElem?_take, if_pos him]; exact h1, hro _ _ _ _ _ h2 (by decide)⟩
    · cases hi
/-- What lies there between two rounds of Del. -/
def DelG (w W : World) (lo b sz g0 : Nat) (s0 s : Sls) : Prop := (∃ c vs, PgAt W lo b sz s (some ⟨g0, 0, none⟩) c vs) ∧ Chg (fun j => j = b ∨ j = g0) w W ∧ trimS s = trimS s0 ∧ s.length ≤ 63
set_option maxRecDepth 100000 in
set_option maxHeartbeats 1600000 in
theorem sdel_any (lo b sz i g c : Nat) (vs : List Value) (s : Sls) (t : List Int) (w : World) (hp : PgAt w lo b sz s (some ⟨g, 0, none⟩) c vs) (hf : SFit s sz) (hz : sz ≤ 4096) (hi : s[i]? = some t) (ht : t ≠ []) :
    Calls Tryz.prog 34 #[.pointer (some ⟨b, 0, none⟩), .int .i64 i] w fun e w' => e = .returned (.int .i64 0) ∧ Pg w' lo b sz (delS s i) ∧ Chg (fun j => j = b ∨ j = g) w w' := by
  have h : Pg w lo b sz s := ⟨_, _, _, hp⟩
  have hil := (List.getElem?_eq_some_iff.1 hi).1
  have hfew := hf.few
  have hbl := hf.bl
  have HH := Lib.hid (has_any lo b sz i s w h (by omega) (by omega))
  have HV := Lib.hid (hasS_true hi ht)
  obtain ⟨c0, f0, s0⟩ := hp.blk.facts
  obtain ⟨g', Ai, ci, e', hg, hgl, hce, ho⟩ := hp.cell hi
  cases e'
  have hfr := Blk.frozen (own_row hp.row).choose_spec.2.1
  have HP := Lib.hid (And.intro hp hgl)
  have HB := Lib.hid hbl
  clear h hp ho hgl hi ht hf hbl
  go_enter Tryz.func34, Tryz.ntmps34
  go_wp2_with fail
  refine HH.out.mono ?_
  rintro e w1 ⟨rfl, rfl⟩
  rw [HV.out]
  go_wp2_with fail
  obtain ⟨W1, hW1⟩ : ∃ W, w.setCell ⟨g, i, none⟩ (.slice none 0 0) = W := ⟨_, rfl⟩
  rw [hW1]
  have hJ : DelG w W1 lo b sz g (s.set i []) (s.set i []) := ⟨⟨_, _, hW1 ▸ HP.out.1.set (t := []) (World.ownsRow_nil _ _ _ _) hil⟩, hW1 ▸ (Chg.refl _ _).setCell (p := ⟨g, i, none⟩) (fun _ => Or.inr rfl) _, rfl, by simpa using hfew⟩
  have HJ := Lib.hid hJ
  have HL := Lib.hid (show ∀ b' ∈ s.set i [], b'.length ≤ 4096 from fun b' hb' => by
    rcases List.mem_or_eq_of_mem_set hb' with e | e
    · have := HB.out b' e; omega
    · subst e; simp)
  clear hJ hW1 c0 f0 hce hfr
  go_loopg [] s.length (fun q wr => ∃ s' : Sls, q = s'.length ∧ DelG w wr lo b sz g (s.set i []) s')
  case atStart => exact ⟨_, (List.length_set).symm, HJ.out⟩
  case round =>
    obtain ⟨s', rfl, ⟨c', vs', hp'⟩, hch, htr, hl63⟩ := hrel
    obtain ⟨c0, f0, s0⟩ := hp'.blk.facts
    cases hsn : s'.length with
    | zero =>
      rw [hsn] at c0
      have H2 := Lib.hid (show Pg wr lo b sz (delS s i) ∧ Chg (fun j => j = b ∨ j = g) w wr from ⟨by
        have h0 : s' = [] := List.eq_nil_of_length_eq_zero hsn
        have : delS s i = s' := by unfold delS; rw [← htr, h0]; rfl
        rw [this]
        exact ⟨_, _, _, hp'⟩, hch⟩)
      clear hp' hch htr hl63 HJ HL
      go_wp2_with fail
      go_quiet (fail)
      go_wp2_with fail
      go_ret
      exact ⟨rfl, H2.out.1.grew ((Chg.refl _ _).drewN _), H2.out.2.grew ((Chg.refl _ _).drewN _)⟩
    | succ n =>
      obtain ⟨b', hb'⟩ : ∃ b', s'[n]? = some b' := ⟨_, List.getElem?_eq_getElem (by omega)⟩
      obtain ⟨g', Ai', ci', e9, hg', hgl', hce', ho'⟩ := hp'.cell hb'
      cases e9
      rw [hsn] at c0
      have hls := take_last hb' hsn
      have hn63 : n ≤ 62 := by omega
      have hnc : n ≤ c' := by
        obtain ⟨_, _, e, h9⟩ := own_shape hp'.row
        cases e
        omega
      by_cases hb0 : b' = []
      · subst hb0
        have hd1 : (wr.drew).cell? ⟨b, 1, none⟩ = some (.slice (some ⟨g, 0, none⟩) (n + 1) c') := c0 1
        have H2 := Lib.hid (And.intro hp' (And.intro hch (And.intro htr (And.intro hls (And.intro hsn hl63)))))
        clear hp' hch htr hls hl63 HJ HL ho' hb'
        go_wp2_with fail
        go_quiet (fail)
        go_wp2_with fail
        have hwn : IntKind.i64.wrap ((n : Nat) : Int) = (n : Int) := wrap_nat (by omega)
        refine wp_region_y [14] (S := fun w' => w'.cell? ⟨b, 1, none⟩ = some (.slice (some ⟨g, 0, none⟩) (n + 1) c')) (by kernel_rfl) (c0 1) (fun hHeld => ?_)
        refine wpAnyY_takeP (i := 0) (v := ?_) rfl (by kernel_rfl) (by kernel_rfl) (by kernel_rfl) (fun _ _ _ h => h) (Or.inl ⟨by rfl, ?_⟩) ?_
        rotate_left
        · (intro w hSw; go_simp) <;> with_reducible rfl
        (try simp only [Act.put, List.setIfInBounds_toArray, List.set_cons_zero, List.set_cons_succ, List.getElem_toArray, List.getElem_cons_zero, List.getElem_cons_succ])
        refine wpAnyY_takeP (i := 1) (v := ?_) rfl (by kernel_rfl) (by kernel_rfl) (by kernel_rfl) (fun _ _ _ h => h) (Or.inl ⟨by rfl, ?_⟩) ?_
        rotate_left
        · (intro w hSw; go_simp) <;> with_reducible rfl
        (try simp only [Act.put, List.setIfInBounds_toArray, List.set_cons_zero, List.set_cons_succ, List.getElem_toArray, List.getElem_cons_zero, List.getElem_cons_succ])
        refine wpAnyY_takeP (i := 2) (v := ?_) rfl (by kernel_rfl) (by kernel_rfl) (by kernel_rfl) (fun _ _ _ h => h) (Or.inl ⟨by rfl, ?_⟩) ?_
        rotate_left
        · (intro w hSw; go_simp) <;> with_reducible rfl
        (try simp only [Act.put, List.setIfInBounds_toArray, List.set_cons_zero, List.set_cons_succ, List.getElem_toArray, List.getElem_cons_zero, List.getElem_cons_succ])
        refine wpAnyY_takeP (i := 3) (v := ?_) rfl (by kernel_rfl) (by kernel_rfl) (by kernel_rfl) (fun _ _ _ h => h) (Or.inl ⟨by rfl, ?_⟩) ?_
        rotate_left
        · (intro w hSw; go_simp) <;> with_reducible rfl
        (try simp only [Act.put, List.setIfInBounds_toArray, List.set_cons_zero, List.set_cons_succ, List.getElem_toArray, List.getElem_cons_zero, List.getElem_cons_succ])
        refine wpAnyY_takeP (i := 5) (v := ?_) rfl (by kernel_rfl) (by kernel_rfl) (by kernel_rfl) (fun _ _ _ h => h) (Or.inl ⟨by rfl, ?_⟩) ?_
        rotate_left
        · (intro w hSw; go_simp) <;> with_reducible rfl
        (try simp only [Act.put, List.setIfInBounds_toArray, List.set_cons_zero, List.set_cons_succ, List.getElem_toArray, List.getElem_cons_zero, List.getElem_cons_succ])
        refine wpAnyY_takeP (i := 6) (v := ?_) rfl (by kernel_rfl) (by kernel_rfl) (by kernel_rfl) (fun _ _ _ h => h) (Or.inl ⟨by rfl, ?_⟩) ?_
        rotate_left
        · (intro w hSw; go_simp) <;> with_reducible rfl
        (try simp only [Act.put, List.setIfInBounds_toArray, List.set_cons_zero, List.set_cons_succ, List.getElem_toArray, List.getElem_cons_zero, List.getElem_cons_succ])
        refine wpAnyY_takeP (i := 7) (v := ?_) rfl (by kernel_rfl) (by kernel_rfl) (by kernel_rfl) (fun _ _ _ h => h) (Or.inl ⟨by rfl, ?_⟩) ?_
        rotate_left
        · (intro w hSw; go_simp) <;> with_reducible rfl
        (try simp only [Act.put, List.setIfInBounds_toArray, List.set_cons_zero, List.set_cons_succ, List.getElem_toArray, List.getElem_cons_zero, List.getElem_cons_succ])
        refine wpAnyY_take (i := 4) (v := ?_) rfl (by kernel_rfl) (by kernel_rfl) (by kernel_rfl) (by kernel_rfl) (fun _ _ _ h => h) (Or.inl ⟨by rfl, ?_⟩) hHeld ?_
        rotate_left
        · (intro w hSw; (try dsimp only at hSw); go_simp) <;> with_reducible rfl
        (try simp only [Act.put, List.setIfInBounds_toArray, List.set_cons_zero, List.set_cons_succ, List.getElem_toArray, List.getElem_cons_zero, List.getElem_cons_succ])
        refine wpAnyY_take (i := 8) (v := ?_) rfl (by kernel_rfl) (by kernel_rfl) (by kernel_rfl) (by kernel_rfl) (fun _ _ _ h => h) (Or.inl ⟨by rfl, ?_⟩) hHeld ?_
        rotate_left
        · (intro w hSw; (try dsimp only at hSw); go_simp) <;> with_reducible rfl
        (try simp only [Act.put, List.setIfInBounds_toArray, List.set_cons_zero, List.set_cons_succ, List.getElem_toArray, List.getElem_cons_zero, List.getElem_cons_succ])
        refine wpAnyY_takeP (i := 9) (v := ?_) rfl (by kernel_rfl) (by kernel_rfl) (by kernel_rfl) (fun _ _ _ h => h) (Or.inl ⟨by rfl, ?_⟩) ?_
        rotate_left
        · (intro w hSw; go_simp) <;> with_reducible rfl
        (try simp only [Act.put, List.setIfInBounds_toArray, List.set_cons_zero, List.set_cons_succ, List.getElem_toArray, List.getElem_cons_zero, List.getElem_cons_succ])
        refine wpAnyY_takeP (i := 10) (v := ?_) rfl (by kernel_rfl) (by kernel_rfl) (by kernel_rfl) (fun _ _ _ h => h) (Or.inl ⟨by rfl, ?_⟩) ?_
        rotate_left
        · (intro w hSw; go_simp) <;> with_reducible rfl
        (try simp only [Act.put, List.setIfInBounds_toArray, List.set_cons_zero, List.set_cons_succ, List.getElem_toArray, List.getElem_cons_zero, List.getElem_cons_succ])
        refine wpAnyY_takeP (i := 11) (v := ?_) rfl (by kernel_rfl) (by kernel_rfl) (by kernel_rfl) (fun _ _ _ h => h) (Or.inl ⟨by rfl, ?_⟩) ?_
        rotate_left
        · (intro w hSw; go_simp) <;> with_reducible rfl
        (try simp only [Act.put, List.setIfInBounds_toArray, List.set_cons_zero, List.set_cons_succ, List.getElem_toArray, List.getElem_cons_zero, List.getElem_cons_succ])
        refine wpAnyY_takeP (i := 12) (v := ?_) rfl (by kernel_rfl) (by kernel_rfl) (by kernel_rfl) (fun _ _ _ h => h) (Or.inl ⟨by rfl, ?_⟩) ?_
        rotate_left
        · (intro w hSw; go_simp) <;> with_reducible rfl
        (try simp only [Act.put, List.setIfInBounds_toArray, List.set_cons_zero, List.set_cons_succ, List.getElem_toArray, List.getElem_cons_zero, List.getElem_cons_succ])
        refine wpAnyY_takeP (i := 13) (v := ?_) rfl (by kernel_rfl) (by kernel_rfl) (by kernel_rfl) (fun _ _ _ h => h) (Or.inl ⟨by rfl, ?_⟩) ?_
        rotate_left
        · (intro w hSw; go_simp) <;> with_reducible rfl
        (try simp only [Act.put, List.setIfInBounds_toArray, List.set_cons_zero, List.set_cons_succ, List.getElem_toArray, List.getElem_cons_zero, List.getElem_cons_succ])
        refine wpAnyY_ready (rs := [14]) (by kernel_rfl) (by simp) ?_
        refine AllReadyY.cons rfl (fun K hK => ?_) AllReadyY.nil
        go_simp
        refine hK.out _ _ (fun e _ => by simp at e) ?_
        clear hK K
        (try simp only [Act.put, List.setIfInBounds_toArray, List.set_cons_zero, List.set_cons_succ, List.getElem_toArray, List.getElem_cons_zero, List.getElem_cons_succ])
        refine wpAnyY_done (by kernel_rfl) ?_ _
        clear hHeld hd1
        have hgw : Grew wr (wr.drewN (nq + 1)) := (Chg.refl _ _).drewN (nq + 1)
        obtain ⟨W2, hW2⟩ : ∃ W, (wr.drewN (nq + 1)).setCell ⟨b, 1, none⟩ (.slice (some ⟨g, 0, none⟩) n c') = W := ⟨_, rfl⟩
        rw [hW2]
        have hp2 := (H2.out.1.grew hgw).short (m := n) (by have := H2.out.2.2.2.2.1; omega)
        rw [hW2] at hp2
        have hc2 : Chg (fun j => j = b ∨ j = g) w W2 := Chg.trans (H2.out.2.1.grew hgw) (hW2 ▸ (Chg.refl (fun j => j = b) _).setCell (p := ⟨b, 1, none⟩) (fun _ => rfl) _) fun j _ e => .inl e
        have H3 := Lib.hid (show DelG w W2 lo b sz g (s.set i []) (s'.take n) from ⟨⟨_, _, hp2⟩, hc2, by
          have h1 := H2.out.2.2.1
          have h2 := H2.out.2.2.2.1
          rw [h2, trimS_nil_end] at h1
          exact h1, by rw [List.length_take]; omega⟩)
        clear hgw hp2 hc2 hW2
        go_wp2_with fail
        go_roundg n
        case measure => omega
        case rel => exact ⟨s'.take n, by rw [List.length_take]; have := H2.out.2.2.2.2.1; omega, H3.out⟩
      · have hbn : (b'.length == 0) = false := by rw [beq_eq_false_iff_ne]; intro e; exact hb0 (List.eq_nil_of_length_eq_zero e)
        have hde : delS s i = s' := by
          unfold delS
          rw [← htr]
          refine trimS_self s' fun q hq => ?_
          rw [hls] at hq
          simp at hq
          exact hq ▸ hb0
        have H2 := Lib.hid (show Pg wr lo b sz (delS s i) ∧ Chg (fun j => j = b ∨ j = g) w wr from ⟨by rw [hde]; exact ⟨_, _, _, hp'⟩, hch⟩)
        clear hp' hch htr hls hl63 HJ HL ho' hb' hde
        go_wp2_with fail
        go_quiet (fail)
        go_wp2_with fail
        go_ret
        exact ⟨rfl, H2.out.1.grew ((Chg.refl _ _).drewN _), H2.out.2.grew ((Chg.refl _ _).drewN _)⟩
end Go.Proofs.YtjkkoogfaibhiaaGreatDoor

/- The heap in memory: New, Long, page, stub, first. -/
namespace Go.Proofs.YtjkkoogfaibhiaaGreatDoor
open Go.RowKit Go.Maps

/-- A heap's handle, and its pager. -/
structure HH (W : World) (h m p : Nat) (F : Nat → Prop) (x : Rp) (P : Nat → Bool) : Prop where
  gp : GP W p F x
  blk : Blk W h 60 #[.pointer (some ⟨p, 0, none⟩), .map (some m)]
  mp : IMap Tryz.prog 3 W m (mB P) (cntN P 4096)
  pb : ∀ i, P i = true → i < 4096
  nh : ¬ F h
  nm : ¬ F m
  ne : h ≠ m ∧ m ≠ 0
section
variable {W W' : World} {h m p : Nat} {F G : Nat → Prop} {x y : Rp} {P : Nat → Bool}
theorem HH.map (k : HH W h m p F x P) : ∃ s, IMap Tryz.prog 3 W m (mB P) s := ⟨_, k.mp⟩
theorem HH.lt (k : HH W h m p F x P) : m < W.heap.size := k.mp.lt
theorem HH.chg (k : HH W h m p F x P) (hc : Chg G W W') (hG : ∀ j, F j → ¬ G j) (hG0 : ¬ G 0) (hGh : ¬ G h) (hGm : ¬ G m) : HH W' h m p F x P :=
  ⟨k.gp.chg hc hG hG0, k.blk.chg hc hGh, k.mp.chg hc hGm, k.pb, k.nh, k.nm, k.ne⟩
theorem HH.grew (k : HH W h m p F x P) (hc : Grew W W') : HH W' h m p F x P := k.chg hc (fun _ _ => id) id id id
theorem HH.far (k : HH W h m p F x P) (hc : Chg F W W') (hg : GP W' p F x) : HH W' h m p F x P := ⟨hg, k.blk.chg hc k.nh, k.mp.chg hc k.nm, k.pb, k.nh, k.nm, k.ne⟩
theorem HH.to (k : HH W h m p F x P) (hg : GPTo W W' p F y) : ∃ F', HH W' h m p F' y P ∧ Rch F F' W W' := by
  obtain ⟨F', h1, h2, h3⟩ := hg
  exact ⟨F', ⟨h1, k.blk.chg h2 k.nh, k.mp.chg h2 k.nm, k.pb, fun e => (h3 h e).elim k.nh fun e => by have := k.blk.lt; omega, fun e => (h3 m e).elim k.nm fun e => by have := k.lt; omega, k.ne⟩, ⟨h2, h3⟩⟩
/-- A page more. -/
theorem HH.put (k : HH W h m p F x P) {i : Nat} (hi : i < 4096) : ∃ W', (Instr.mapUpdate 58 (.map (some m)) (.int .i64 i) (.bool true)).run Tryz.prog W = .ok () W' ∧ HH W' h m p F x (setB P i true) ∧ Chg (fun j => j = m) W W' := by
  obtain ⟨W', hr, hm2, hc⟩ := k.mp.put (t := 58) kInt Tryz.underlying3 Tryz.underlying58 (by have := cntN_le P 4096; simp only [maxLen]; omega) (i := (i : Int)) (wfInt (by omega) (by omega)) (.bool true)
  refine ⟨W', hr, ⟨k.gp.chg hc (fun j hj e => k.nm (e ▸ hj)) (fun e => k.ne.2 e.symm), k.blk.chg hc k.ne.1, ?_, fun j hj => ?_, k.nh, k.nm, k.ne⟩, hc⟩
  · rw [mB_put, mB_nat] at hm2
    cases hq : P i with
    | true =>
      rw [setB_same hq] at hm2 ⊢
      simpa [hq] using hm2
    | false =>
      rw [cntN_yes P hi hq]
      simpa [hq] using hm2
  · unfold setB at hj
    split at hj
    · omega
    · exact k.pb j hj
/-- A page less. -/
theorem HH.del (k : HH W h m p F x P) {i : Nat} (hi : P i = true) (ty : TypeId) : ∃ W', (Builtin.delete_ #[58, 3] ty #[.map (some m), .int .i64 i]).run Tryz.prog W = .ok (.tuple #[]) W' ∧ HH W' h m p F x (setB P i false) ∧ Chg (fun j => j = m) W W' := by
  have hi4 := k.pb i hi
  obtain ⟨W', hr, hm2, hc⟩ := k.mp.del (t := 58) kInt Tryz.underlying3 Tryz.underlying58 (i := (i : Int)) (wfInt (by omega) (by omega)) ty
  refine ⟨W', hr, ⟨k.gp.chg hc (fun j hj e => k.nm (e ▸ hj)) (fun e => k.ne.2 e.symm), k.blk.chg hc k.ne.1, ?_, fun j hj => ?_, k.nh, k.nm, k.ne⟩, hc⟩
  · rw [mB_del, mB_nat] at hm2
    have h6 := cntN_drop P hi4 hi
    rw [show cntN (setB P i false) 4096 = cntN P 4096 - 1 by omega]
    simpa [hi] using hm2
  · unfold setB at hj
    split at hj
    · cases hj
    · exact k.pb j hj
/-- What is new since the world before is apart. -/
theorem HH.new (k : HH W h m p F x P) (hc : Chg (fun j => W.heap.size ≤ j) W W') : Grew W W' := hc.mono fun i hi e => by omega
end
theorem hnew_any (p : Nat) (F : Nat → Prop) (x : Rp) (w : World) (k : GP w p F x) :
    Calls Tryz.prog 8 #[.pointer (some ⟨p, 0, none⟩)] w fun e w' => ∃ h m, e = .returned (.pointer (some ⟨h, 0, none⟩)) ∧ HH w' h m p F x (fun _ => false) ∧ Grew w w' ∧ w.heap.size ≤ h ∧ w.heap.size ≤ m ∧ h ≠ m := by
  have hlt := k.lt
  obtain ⟨W1, hW1⟩ : ∃ W, w.alloc (.map #[] 0) = W := ⟨_, rfl⟩
  obtain ⟨W2, hW2⟩ : ∃ W, W1.alloc (.cells #[.pointer (some ⟨p, 0, none⟩), .map (some w.heap.size)] 60) = W := ⟨_, rfl⟩
  have hz : W1.heap.size = w.heap.size + 1 := by subst hW1; simp
  have hg1 : Grew w W1 := hW1 ▸ (Chg.refl _ _).alloc _
  have hg2 : Grew W1 W2 := hW2 ▸ (Chg.refl _ _).alloc _
  have hm : IMap Tryz.prog 3 W2 w.heap.size (mB fun _ => false) 0 := by
    rw [mB_none]
    have := IMap.made Tryz.prog 3 w
    rw [hW1] at this
    exact this.grew hg2
  have H := Lib.hid (show HH W2 W1.heap.size w.heap.size p F x (fun _ => false) ∧ Grew w W2 from ⟨⟨(k.grew hg1).grew hg2, hW2 ▸ Blk.new _ _ _, by rw [cntN_no]; exact hm, fun i hi => (by cases hi), fun e => by have := hlt _ e; omega, fun e => by have := hlt _ e; omega, by omega, by have := tab_pos k.tab; omega⟩, Grew.trans hg1 hg2⟩)
  have HW := Lib.hid (And.intro hW1 (And.intro hW2 hz))
  have qm : ∀ u : World, (Instr.makeMap 58 none).run Tryz.prog u = .ok (.map (some u.heap.size)) (u.alloc (.map #[] 0)) := fun u => run_makeMap _ u
  clear k hlt hW1 hW2 hz hg1 hg2 hm
  go_enter Tryz.func8, Tryz.ntmps8
  go_wp2
  rw [HW.out.1, HW.out.2.1]
  go_ret
  have hz := HW.out.2.2
  exact ⟨W1.heap.size, w.heap.size, by simp [hz], H.out.1, H.out.2, by omega, by omega, by omega⟩
def longB (n sz : Nat) : Bool := decide ((sz - 8) / 2 < n)
theorem hlong_any (h m p n : Nat) (F : Nat → Prop) (x : Rp) (P : Nat → Bool) (w : World) (k : HH w h m p F x P) :
    Calls Tryz.prog 9 #[.pointer (some ⟨h, 0, none⟩), .int .i64 n] w fun e w' => e = .returned (.bool (longB n x.sz)) ∧ w = w' := by
  obtain ⟨c0, f0, s0⟩ := k.blk.facts
  have hz := k.gp.szs
  have H := Lib.hid k
  have hq : ((x.sz : Int) - 8).tdiv 2 = (((x.sz - 8) / 2 : Nat) : Int) := by rw [Int.tdiv_eq_ediv_of_nonneg (by omega)]; omega
  have hq2 : (x.sz - 8) / 2 ≤ 4096 := by omega
  obtain ⟨z1, z2, z3, z4, -⟩ := hz
  obtain ⟨b, hb⟩ : ∃ b, longB n x.sz = b := ⟨_, rfl⟩
  have HB := Lib.hid hb
  rw [hb]
  clear k hb
  go_enter Tryz.func9, Tryz.ntmps9
  go_wp2_with (go_at_call 26; (refine (gp_size p F x w H.out.gp).mono ?_); rintro e w1 ⟨rfl, rfl⟩)
  go_ret
  refine ⟨?_, rfl⟩
  rw [← HB.out]
  unfold longB
  simp
  omega
/-- What page leaves. -/
def PgOutH (w w' : World) (h m p : Nat) (F : Nat → Prop) (x : Rp) (P : Nat → Bool) (s : Sls) (e : Ending) : Prop :=
  ∃ q, e = .returned (.tuple #[.pointer (some ⟨q, 0, none⟩), .int .i64 0]) ∧ Pg w' w.heap.size q x.sz s ∧ HH w' h m p F x P ∧ Chg F w w'
theorem hpage_any (h m p i : Nat) (F : Nat → Prop) (x : Rp) (P : Nat → Bool) (L : List HR) (s : Sls) (w : World) (k : HH w h m p F x P) (hs : HPg x L i s) :
    Calls Tryz.prog 62 #[.pointer (some ⟨h, 0, none⟩), .int .i64 i] w fun e w' => PgOutH w w' h m p F x P s e := by
  obtain ⟨c0, f0, s0⟩ := k.blk.facts
  have hz := k.gp.szs
  obtain ⟨c, hc1, hc2, hc3⟩ := hs.byt
  have HR := Lib.hid (gp_read p i F x w c k.gp hc1 hc2)
  rw [hc3] at HR
  have H := Lib.hid (And.intro k hs)
  obtain ⟨z1, z2, z3, z4, -⟩ := hz
  clear k hs hc1 hc2 hc3
  go_enter Tryz.func62, Tryz.ntmps62
  go_wp2_with fail
  refine HR.out.mono ?_
  rintro e w1 ⟨A, cA, rfl, ho, hbl, hby, hg, hc, hF⟩
  obtain ⟨g, rfl, hgl⟩ := own_block ho (by omega)
  have HL := Lib.hid (sload_any x.sz g cA s w1 (own_base ho (Nat.zero_le _)) H.out.2.fit (by omega) z4 H.out.2.ne)
  have H1 := Lib.hid (And.intro (H.out.1.far hc hg) hc)
  have hsz := hc.size
  clear ho hbl hby hg hc hF c0 f0 s0
  go_wp2_with fail
  refine HL.out.mono ?_
  rintro e w2 ⟨rfl, hp, hg2⟩
  have H2 := Lib.hid (And.intro (hp.low hsz) hg2)
  clear hp hg2
  go_wp2_with fail
  go_ret2
  exact ⟨_, rfl, H2.out.1, H1.out.1.grew H2.out.2, H1.out.2.grew H2.out.2⟩
end Go.Proofs.YtjkkoogfaibhiaaGreatDoor

/- The heap in memory: stub, first, Get. -/
namespace Go.Proofs.YtjkkoogfaibhiaaGreatDoor
open Go.RowKit Go.Maps

theorem quo64 (q : Nat) : ((q : Nat) : Int).tdiv 64 = ((q / 64 : Nat) : Int) := by rw [Int.tdiv_eq_ediv_of_nonneg (by omega)]; omega
theorem rem64 (q : Nat) : ((q : Nat) : Int).tmod 64 = ((q % 64 : Nat) : Int) := by rw [Int.tmod_eq_emod_of_nonneg (by omega)]; omega
/-- What stub leaves, if there is a record. -/
def StubOut (w w' : World) (h m p : Nat) (F : Nat → Prop) (x : Rp) (P : Nat → Bool) (L : List HR) (r : HR) (e : Ending) : Prop :=
  ∃ q s A c, e = .returned (.tuple #[.pointer (some ⟨q, 0, none⟩), .slice A r.what.length c, .int .i64 0]) ∧ (HPg x L (r.place / 64) s ∧ s[r.place % 64]? = some r.what) ∧ Pg w' w.heap.size q x.sz s ∧
    w'.ownsRow w.heap.size 5 1 (.slice A r.what.length c) r.what.length (bv r.what) ∧ HH w' h m p F x P ∧ Chg F w w'
set_option maxRecDepth 100000 in
set_option maxHeartbeats 1600000 in
theorem hstub_any (h m p : Nat) (F : Nat → Prop) (x : Rp) (P : Nat → Bool) (L : List HR) (E : List Nat) (r : HR) (w : World) (k : HH w h m p F x P) (hx : HeapIn x P L E) (hr : r ∈ L) :
    Calls Tryz.prog 30 #[.pointer (some ⟨h, 0, none⟩), .int .i64 r.place] w fun e w' => StubOut w w' h m p F x P L r e := by
  obtain ⟨c0, f0, s0⟩ := k.blk.facts
  have hz := k.gp.szs
  obtain ⟨s, hs, hj⟩ := hx.slot hr
  have hP := (hx.at_ r hr).1
  have hlt := hs.lt
  have hb : r.place < 262144 := by omega
  have hlk : (Instr.lookup 58 (.map (some m)) (.int .i64 ((r.place : Int) / 64)) false).run Tryz.prog w = .ok (.bool true) w := by
    obtain ⟨n, hn⟩ := k.map
    have := hn.look (t := 58) kInt Tryz.underlying3 Tryz.underlying58 (zBool w) (i := ((r.place / 64 : Nat) : Int)) (wfInt (by omega) (by omega))
    rw [mB_getD, hP, show ((r.place / 64 : Nat) : Int) = (r.place : Int) / 64 by omega] at this
    exact this
  have hpa := hpage_any h m p (r.place / 64) F x P L s w k hs
  rw [show ((r.place / 64 : Nat) : Int) = (r.place : Int) / 64 by omega] at hpa
  have HP := Lib.hid hpa
  have H := Lib.hid (And.intro k (And.intro hs hj))
  have hq : ((r.place / 64 : Nat) : Int) = (r.place : Int) / 64 := by omega
  have hm : ((r.place % 64 : Nat) : Int) = (r.place : Int) % 64 := by omega
  have hq4 : r.place / 64 < 4096 := by omega
  have hm4 : r.place % 64 < 64 := by omega
  have t1 : decide (((r.place : Nat) : Int) < 0) = false := decide_eq_false (by omega)
  have HW := Lib.hid r.what_ne
  clear k hx hr hs hj hP hlt hz hpa hq
  go_enter Tryz.func30, Tryz.ntmps30
  go_wp2_with fail
  refine HP.out.mono ?_
  rintro e w1 ⟨q, rfl, hp, hk, hc⟩
  have hga := sget_any w.heap.size q x.sz (r.place % 64) s r.what w1 hp H.out.2.1.fit hk.gp.szs.2.2.2.1 H.out.2.2 HW.out
  rw [hm] at hga
  have HG := Lib.hid hga
  have H1 := Lib.hid (And.intro hp (And.intro hk hc))
  have hsz := hc.size
  clear hp hk hc c0 f0 s0 hlk hga hm
  go_wp2_with fail
  refine HG.out.mono ?_
  rintro e w2 ⟨A2, c2, rfl, ho2, hg2⟩
  have H2 := Lib.hid (And.intro (own_base ho2 hsz) hg2)
  clear ho2 hg2
  go_wp2_with fail
  refine bodyPost_ret (v := .tuple #[.pointer (some ⟨q, 0, none⟩), .slice A2 r.what.length c2, .int .i64 0]) (by simp [results, Tryz.results30, go_sem]) rfl ?_
  exact ⟨q, s, A2, c2, rfl, H.out.2, H1.out.1.grew H2.out.2, H2.out.1, H1.out.2.1.grew H2.out.2, H1.out.2.2.grew H2.out.2⟩
/-- Nothing lies at a place. -/
def NoRec (L : List HR) (q : Int) : Prop := q < 0 ∨ ∀ r ∈ L, (r.place : Int) ≠ q
set_option maxRecDepth 100000 in
set_option maxHeartbeats 1600000 in
theorem hstub_none (h m p : Nat) (F : Nat → Prop) (x : Rp) (P : Nat → Bool) (L : List HR) (E : List Nat) (pl : Int) (w : World) (k : HH w h m p F x P) (hx : HeapIn x P L E) (hb : -9223372036854775808 ≤ pl ∧ pl ≤ 9223372036854775807) (hn : NoRec L pl) :
    Calls Tryz.prog 30 #[.pointer (some ⟨h, 0, none⟩), .int .i64 pl] w fun e w' => (∃ v, e = .returned (.tuple #[v, .slice none 0 0, .int .i64 14])) ∧ HH w' h m p F x P ∧ Chg F w w' := by
  obtain ⟨c0, f0, s0⟩ := k.blk.facts
  have hz := k.gp.szs
  by_cases h0 : pl < 0
  · have t1 : decide (pl < 0) = true := decide_eq_true h0
    have H := Lib.hid k
    clear k hx hn
    go_enter Tryz.func30, Tryz.ntmps30
    go_wp2_with fail
    refine bodyPost_ret (v := .tuple #[.pointer none, .slice none 0 0, .int .i64 14]) (by simp [results, Tryz.results30, go_sem]) rfl ?_
    exact ⟨⟨_, rfl⟩, H.out, Chg.refl _ _⟩
  · obtain ⟨n, rfl⟩ := Int.eq_ofNat_of_zero_le (show 0 ≤ pl by omega)
    have t1 : decide ((n : Int) < 0) = false := decide_eq_false h0
    have hlk : (Instr.lookup 58 (.map (some m)) (.int .i64 ((n : Int) / 64)) false).run Tryz.prog w = .ok (.bool (P (n / 64))) w := by
      obtain ⟨s, hs⟩ := k.map
      have := hs.look (t := 58) kInt Tryz.underlying3 Tryz.underlying58 (zBool w) (i := ((n / 64 : Nat) : Int)) (wfInt (by omega) (by omega))
      rw [mB_getD, show ((n / 64 : Nat) : Int) = (n : Int) / 64 by omega] at this
      exact this
    have hn' : ∀ r ∈ L, r.place ≠ n := fun r hr e => hn.elim (fun e => h0 e) fun g => g r hr (by rw [e])
    have hb2 := hb.2
    rcases hx.none_ hn' with hP | ⟨s, hs, hj⟩
    · rw [hP] at hlk
      have H := Lib.hid k
      clear k hx hn hn' h0 hb hP
      go_enter Tryz.func30, Tryz.ntmps30
      go_wp2_with fail
      refine bodyPost_ret (v := .tuple #[.pointer none, .slice none 0 0, .int .i64 14]) (by simp [results, Tryz.results30, go_sem]) rfl ?_
      exact ⟨⟨_, rfl⟩, H.out, Chg.refl _ _⟩
    · have hlt := hs.lt
      cases hP : P (n / 64) with
      | false =>
        rw [hP] at hlk
        have H := Lib.hid k
        clear k hx hn hn' h0 hb hP hs hj hlt
        go_enter Tryz.func30, Tryz.ntmps30
        go_wp2_with fail
        refine bodyPost_ret (v := .tuple #[.pointer none, .slice none 0 0, .int .i64 14]) (by simp [results, Tryz.results30, go_sem]) rfl ?_
        exact ⟨⟨_, rfl⟩, H.out, Chg.refl _ _⟩
      | true =>
        rw [hP] at hlk
        have hpa := hpage_any h m p (n / 64) F x P L s w k hs
        rw [show ((n / 64 : Nat) : Int) = (n : Int) / 64 by omega] at hpa
        have HP := Lib.hid hpa
        have hm : ((n % 64 : Nat) : Int) = (n : Int) % 64 := by omega
        have hq4 : n / 64 < 4096 := by omega
        have hm4 : n % 64 < 64 := by omega
        have hf := hs.fit.few
        have H := Lib.hid hj
        clear k hx hn hn' h0 hb hP hs hj hlt hz hpa
        go_enter Tryz.func30, Tryz.ntmps30
        go_wp2_with fail
        refine HP.out.mono ?_
        rintro e w1 ⟨q, rfl, hp, hk, hc⟩
        have hga := sget_none w.heap.size q x.sz (n % 64) s w1 hp (by omega) (by omega) H.out
        rw [hm] at hga
        have HG := Lib.hid hga
        have H1 := Lib.hid (And.intro hk hc)
        clear hp hk hc c0 f0 s0 hlk hga hm
        go_wp2_with fail
        refine HG.out.mono ?_
        rintro e w2 ⟨rfl, rfl⟩
        go_wp2_with fail
        refine bodyPost_ret (v := .tuple #[.pointer (some ⟨q, 0, none⟩), .slice none 0 0, .int .i64 14]) (by simp [results, Tryz.results30, go_sem]) rfl ?_
        exact ⟨⟨_, rfl⟩, H1.out.1, H1.out.2⟩
end Go.Proofs.YtjkkoogfaibhiaaGreatDoor

/- The heap in memory: first, Get. -/
namespace Go.Proofs.YtjkkoogfaibhiaaGreatDoor
open Go.RowKit Go.Maps

def HR.fst (r : HR) : Nat := r.pages.headD 0
def HR.isL (r : HR) : Bool := !r.pages.isEmpty
theorem what_cells {W : World} {base g c : Nat} {bs : List Int} (h : W.ownsRow base 5 1 (.slice (some ⟨g, 0, none⟩) bs.length c) bs.length (bv bs)) {j : Nat} {u : Int} (hu : bs[j]? = some u) : W.cell? ⟨g, j, none⟩ = some (.int .u8 u) := by
  have := h.cells (g := g) rfl j (.int .u8 u) (by simp [bv, hu])
  rwa [Addr.add_lit, Nat.zero_add] at this
set_option maxRecDepth 100000 in
set_option maxHeartbeats 1600000 in
theorem hfirst_any (base g c : Nat) (r : HR) (w : World) (ho : w.ownsRow base 5 1 (.slice (some ⟨g, 0, none⟩) r.what.length c) r.what.length (bv r.what)) (hi : ∀ i ∈ r.pages, i < 65536) (hl : r.text.length ≤ 16384) :
    Calls Tryz.prog 31 #[.slice (some ⟨g, 0, none⟩) r.what.length c] w fun e w' => e = .returned (.tuple #[.int .i64 r.fst, .bool r.isL]) ∧ Grew w w' := by
  have hgl := (ho.lt g rfl).2
  have hw : r.what = match r.pages with
    | [] => 0 :: r.text
    | i :: _ => [1, ((i % 256 : Nat) : Int), ((i / 256 % 256 : Nat) : Int)] := rfl
  cases hp : r.pages with
  | nil =>
    rw [hp] at hw
    have hf : r.fst = 0 ∧ r.isL = false := by unfold HR.fst HR.isL; rw [hp]; exact ⟨rfl, rfl⟩
    rw [hf.1, hf.2]
    have d0 := what_cells ho (j := 0) (u := 0) (by rw [hw]; rfl)
    have hwl : r.what.length = r.text.length + 1 := by rw [hw]; rfl
    obtain ⟨n, hn⟩ : ∃ n, r.what.length = n := ⟨_, rfl⟩
    rw [hn] at hwl ⊢
    have h1 : (0 : Int) < (n : Int) := by omega
    by_cases h3 : n = 3
    · subst h3
      clear ho hw hf hwl hi hp hn
      go_enter Tryz.func31, Tryz.ntmps31
      go_wp2
      go_ret2
      exact ⟨rfl, Chg.refl _ _⟩
    · have t1 : ((n : Int) != 3) = true := by rw [bne_iff_ne]; omega
      clear ho hw hf hwl hi hp hn
      go_enter Tryz.func31, Tryz.ntmps31
      go_wp2
      go_ret2
      exact ⟨rfl, Chg.refl _ _⟩
  | cons i t =>
    rw [hp] at hw hi
    have hi6 := hi i List.mem_cons_self
    have hf : r.fst = i ∧ r.isL = true := by unfold HR.fst HR.isL; rw [hp]; exact ⟨rfl, rfl⟩
    rw [hf.1, hf.2]
    have d0 := what_cells ho (j := 0) (u := 1) (by rw [hw]; rfl)
    have d1 := what_cells ho (j := 1) (u := ((i % 256 : Nat) : Int)) (by rw [hw]; rfl)
    have d2 := what_cells ho (j := 2) (u := ((i / 256 % 256 : Nat) : Int)) (by rw [hw]; rfl)
    have hwl : r.what.length = 3 := by rw [hw]; rfl
    rw [hwl]
    obtain ⟨x1, hx1⟩ : ∃ x, i % 256 = x := ⟨_, rfl⟩
    obtain ⟨x2, hx2⟩ : ∃ x, i / 256 % 256 = x := ⟨_, rfl⟩
    rw [hx1] at d1
    rw [hx2] at d2
    have hor := or_le2 x1 x2 (by omega) (by omega)
    rw [show x1 + 256 * x2 = i by omega] at hor
    have q1 : x1 ≤ 255 := by omega
    have q2 : x2 ≤ 255 := by omega
    clear ho hw hf hwl hi hp hx1 hx2
    go_enter Tryz.func31, Tryz.ntmps31
    go_wp2
    go_quiet (fail)
    go_wp2
    go_ret2
    exact ⟨rfl, (Chg.refl _ _).drewN _⟩
/-- What Get leaves, if there is a record. -/
def HGet (w w' : World) (h m p : Nat) (F : Nat → Prop) (x : Rp) (P : Nat → Bool) (bs : List Int) (e : Ending) : Prop :=
  ∃ A c, e = .returned (.tuple #[.slice A bs.length c, .int .i64 0]) ∧ Sl w' 1 A bs.length (bv bs) ∧ bs.length ≤ c ∧ (∀ a, A = some a → w.heap.size ≤ a.block) ∧ HH w' h m p F x P ∧ Chg F w w'
set_option maxRecDepth 100000 in
set_option maxHeartbeats 1600000 in
theorem hget_any (h m p : Nat) (F : Nat → Prop) (x : Rp) (P : Nat → Bool) (L : List HR) (E : List Nat) (r : HR) (w : World) (k : HH w h m p F x P) (hx : HeapIn x P L E) (hr : r ∈ L) :
    Calls Tryz.prog 13 #[.pointer (some ⟨h, 0, none⟩), .int .i64 r.place] w fun e w' => HGet w w' h m p F x P r.text e := by
  have HS := Lib.hid (hstub_any h m p F x P L E r w k hx hr)
  have hok := (hx.at_ r hr).2
  have hz := k.gp.szs
  have hi6 : ∀ i ∈ r.pages, i < 65536 := fun i hi => by
    obtain ⟨c, h1, -⟩ := hx.use hr hi
    have := (List.getElem?_eq_some_iff.1 h1).1
    omega
  have H := Lib.hid (And.intro hok hi6)
  have hw : r.what = match r.pages with
    | [] => 0 :: r.text
    | i :: _ => [1, ((i % 256 : Nat) : Int), ((i / 256 % 256 : Nat) : Int)] := rfl
  have hl1 := hok.base.1
  have hl2 := hok.base.2.1
  clear k hx hr hz hi6
  go_enter Tryz.func13, Tryz.ntmps13
  go_wp2_with fail
  refine HS.out.mono ?_
  rintro e w1 ⟨q, s, A, c, rfl, hs, hp, ho, hk, hc⟩
  obtain ⟨g, rfl, hgl⟩ := own_block ho (List.length_pos_iff.2 r.what_ne)
  have hg0 := (ho.lt g rfl).1
  have hcc : r.what.length ≤ c := by obtain ⟨_, _, e, h9⟩ := own_shape ho; cases e; exact h9
  cases hpg : r.pages with
  | nil =>
    rw [hpg] at hw
    have d0 := what_cells ho (j := 0) (u := 0) (by rw [hw]; rfl)
    have hsl : Sl w1 1 (some ⟨g, 1, none⟩) r.text.length (bv r.text) := by
      have h1 : Sl w1 1 (some ⟨g, 0, none⟩) r.what.length (bv r.what) := Sl.of_own ho
      have := h1.sub (i := 1) (m := r.text.length) (by rw [hw]; simp; omega) r.text (by rw [hw]; simp)
      rwa [Nat.zero_add] at this
    have hwl : r.what.length = r.text.length + 1 := by rw [hw]; rfl
    rw [hwl] at hcc ⊢
    obtain ⟨n, hn⟩ : ∃ n, r.text.length = n := ⟨_, rfl⟩
    have H1 := Lib.hid (show HGet w w1 h m p F x P r.text (.returned (.tuple #[.slice (some ⟨g, 1, none⟩) r.text.length (c - 1), .int .i64 0])) from ⟨_, _, rfl, hsl, by omega, fun a ha => by cases ha; exact hg0, hk, hc⟩)
    rw [hn] at H1 hl1 hl2 hcc ⊢
    have t1 : decide (1 < n + 1) = true := decide_eq_true (by omega)
    have hc1 : ¬ c = 1 := by omega
    have hc2 : (n : Int) + 1 ≤ (c : Int) := by omega
    clear hs hp ho hk hc hw hok hsl hwl hn hpg
    go_wp2_with fail
    go_ret2
    exact H1.out
  | cons i t =>
    rw [hpg] at hw
    have d0 := what_cells ho (j := 0) (u := 1) (by rw [hw]; rfl)
    have hwl : r.what.length = 3 := by rw [hw]; rfl
    have hst : Stands x r.pages r.text := by
      rcases H.out.1.shape with ⟨e, -⟩ | ⟨-, e⟩
      · rw [hpg] at e; cases e
      · exact e
    have hfa := hfirst_any w.heap.size g c r w1 ho H.out.2 hl2
    have hfs : r.fst = i ∧ r.isL = true := by unfold HR.fst HR.isL; rw [hpg]; exact ⟨rfl, rfl⟩
    rw [hfs.1, hfs.2] at hfa
    have HF := Lib.hid hfa
    have HC := Lib.hid (fun u (hg : GP u p F x) => cget_stands p F x u r.pages r.text i hg hst hl1 hl2 (by rw [hpg]; rfl))
    have H1 := Lib.hid (And.intro hk hc)
    rw [hwl] at HF ⊢
    obtain ⟨cb, fb, sb⟩ := hk.blk.facts
    have hsz := hc.size
    clear hs hp ho hk hc hw hok hwl hst hfa hfs hcc
    go_wp2_with fail
    refine HF.out.mono ?_
    rintro e w2 ⟨rfl, hg2⟩
    have hk2 := H1.out.1.grew hg2
    obtain ⟨c2, f2, s2⟩ := hk2.blk.facts
    have HC2 := Lib.hid (HC.out w2 hk2.gp)
    have H2 := Lib.hid (And.intro hk2 (And.intro (H1.out.2.grew hg2) (Nat.le_trans hsz hg2.size)))
    clear cb fb sb hg2 hk2
    go_wp2_with fail
    refine HC2.out.mono ?_
    rintro e w3 ⟨hg3, hc3, A3, c3, rfl, ho3⟩
    have hcc3 : r.text.length ≤ c3 := by obtain ⟨_, _, e, h9⟩ := own_shape ho3; cases e; exact h9
    have H3 := Lib.hid (show HGet w w3 h m p F x P r.text (.returned (.tuple #[.slice A3 r.text.length c3, .int .i64 0])) from ⟨_, _, rfl, Sl.of_own ho3, hcc3, fun a ha => by
      cases ha
      obtain ⟨g3, rfl, -⟩ := own_some ho3
      have := (ho3.lt g3 rfl).1
      exact Nat.le_trans H2.out.2.2 this, H2.out.1.far hc3 hg3, Chg.trans H2.out.2.1 hc3 fun _ _ e => e⟩)
    clear hg3 hc3 ho3 c2 f2 s2
    go_wp2_with fail
    go_ret2
    exact H3.out
set_option maxRecDepth 100000 in
theorem hget_none (h m p : Nat) (F : Nat → Prop) (x : Rp) (P : Nat → Bool) (L : List HR) (E : List Nat) (pl : Int) (w : World) (k : HH w h m p F x P) (hx : HeapIn x P L E) (hb : -9223372036854775808 ≤ pl ∧ pl ≤ 9223372036854775807) (hn : NoRec L pl) :
    Calls Tryz.prog 13 #[.pointer (some ⟨h, 0, none⟩), .int .i64 pl] w fun e w' => e = .returned (.tuple #[.slice none 0 0, .int .i64 14]) ∧ HH w' h m p F x P ∧ Chg F w w' := by
  have HS := Lib.hid (hstub_none h m p F x P L E pl w k hx hb hn)
  clear k hx hb hn
  go_enter Tryz.func13, Tryz.ntmps13
  go_wp2_with fail
  refine HS.out.mono ?_
  rintro e w1 ⟨⟨v, rfl⟩, hk, hc⟩
  have H1 := Lib.hid (And.intro hk hc)
  clear hk hc
  go_wp2_with fail
  go_ret2
  exact ⟨rfl, H1.out.1, H1.out.2⟩
end Go.Proofs.YtjkkoogfaibhiaaGreatDoor

/- The heap in memory: Pages. -/
namespace Go.Proofs.YtjkkoogfaibhiaaGreatDoor
open Go.RowKit Go.Maps

set_option maxRecDepth 100000 in
theorem hpages_any (h m p N : Nat) (F : Nat → Prop) (x : Rp) (P : Nat → Bool) (w : World) (k : HH w h m p F x P) (hN : ∀ s, P s = true → s < N) (hl : N ≤ 1000000) :
    Calls Tryz.prog 15 #[.pointer (some ⟨h, 0, none⟩)] w fun e w' => OwnOut w w' 3 1 (keysL P N).length (nv (keysL P N)) (fun A c => .slice A (keysL P N).length c) e := by
  obtain ⟨c0, f0, s0⟩ := k.blk.facts
  obtain ⟨s1, hs1⟩ := k.map
  obtain ⟨W2, hW2⟩ : ∃ W, w.alloc (.cells #[.map (some m)] 58) = W := ⟨_, rfl⟩
  have hg2 : Grew w W2 := hW2 ▸ (Chg.refl _ _).alloc _
  have hb2 : Blk W2 w.heap.size 58 #[.map (some m)] := hW2 ▸ Blk.new _ _ _
  have H := Lib.hid (And.intro (mkeys_any m w W2 hW2) (And.intro (ksorted_all w.heap.size m s1 N P W2 hb2 (hs1.grew hg2) hN hl) hg2))
  clear hs1 hW2 hg2 hb2 hN k
  go_enter Tryz.func15, Tryz.ntmps15
  go_wp2_with fail
  refine H.out.1.mono ?_
  rintro e w1 ⟨rfl, rfl⟩
  clear c0 f0 s0
  go_wp2_with fail
  refine H.out.2.1.mono ?_
  rintro e w2 ⟨A, c, rfl, ho, hg⟩
  have HO := Lib.hid (And.intro ho hg)
  clear ho hg
  go_wp2_with fail
  go_ret
  exact OwnOut.mk A c rfl (own_base HO.out.1 H.out.2.2.size) (Grew.trans H.out.2.2 HO.out.2)
end Go.Proofs.YtjkkoogfaibhiaaGreatDoor
