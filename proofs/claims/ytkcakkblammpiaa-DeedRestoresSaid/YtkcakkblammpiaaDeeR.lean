/- The document's answer for the deeds: what it looks up, and Issue. -/
import Derived.Test.YtkcakkblammpiaaDeeH
namespace Go.Proofs.Ytkcakkblammpiaa
open Go.RowKit

theorem fidx_hit {α : Type} {p : α → Bool} {l : List α} {k : Nat} {x : α} (hno : ∀ j x, j < k → l[j]? = some x → p x = false) (hx : l[k]? = some x) (hp : p x = true) : fidx p l = k := by
  rcases fidx_cases p l with ⟨_, h⟩ | ⟨k', x', hf, hx', hp', _, hno'⟩
  · have := h x (List.mem_of_getElem? hx)
    rw [hp] at this; cases this
  · rw [hf]
    congr 1
    rcases Nat.lt_trichotomy k k' with h | h | h
    · have := hno' k x h hx; rw [hp] at this; cases this
    · exact h.symm
    · have := hno k' x' h hx'; rw [hp'] at this; cases this
theorem fidx_none {α : Type} {p : α → Bool} {l : List α} (hno : ∀ j x, j < l.length → l[j]? = some x → p x = false) : fidx p l = -1 := by
  rcases fidx_cases p l with ⟨h, _⟩ | ⟨k, x, _, hx, hp, hk, _⟩
  · exact h
  · have := hno k x hk hx; rw [hp] at this; cases this

set_option maxHeartbeats 400000 in
theorem rfind_any (id nx : Int) (l : List Dee) (A : Option Addr) (c : Nat) (w : World) (hs : Sl w 3 A l.length (l.flatMap Dee.vals)) (hl : l.length ≤ 1000000) :
    Calls Try.prog 11 #[.agg #[.slice A l.length c, .int .i64 nx], .int .i64 id] w fun e w' => e = .returned (.int .i64 (fidx (fun x : Dee => x.id == id) l)) ∧ Grew w w' := by
  have Hs := Lib.hid hs
  clear hs
  go_enter Try.func11, Try.ntmps11
  go_wp2
  go_loopw [5] (fun i wr => ∃ k : Nat, k ≤ l.length ∧ i = .int .i64 k ∧ (∀ j x, j < k → l[j]? = some x → (x.id == id) = false) ∧ Grew w wr ∧ Blk wr w.heap.size 28 #[.slice A l.length c, .int .i64 nx]) (fun i _ => l.length - (intOf i).toNat)
  case atStart => exact ⟨0, Nat.zero_le _, rfl, fun j x h => absurd h (by omega), (Chg.refl _ _).alloc _, Blk.new _ _ _⟩
  case round =>
    obtain ⟨k, hk, rfl, hno, hg, hb⟩ := hrel
    obtain ⟨c0, f0, s0⟩ := hb.facts
    have Hn := Lib.hid hno
    have Hb := Lib.hid hb
    clear hno hb
    by_cases hlt : k < l.length
    · obtain ⟨x, hx⟩ : ∃ x, l[k]? = some x := ⟨_, List.getElem?_eq_getElem hlt⟩
      obtain ⟨b, off, rfl, hb, d0, d1, d2⟩ := (Hs.out.grew hg).atDee hx
      have Hx := Lib.hid hx
      clear hx
      rcases hq : (x.id == id) with _ | _
      · go_wp2
        refine ⟨⟨k + 1, by omega, by simp, fun j y hj hy => ?_, hg, Hb.out⟩, by simp [intOf]; omega⟩
        by_cases hjk : j = k
        · subst hjk
          have := Hx.out.symm.trans hy
          simp only [Option.some.injEq] at this
          rw [← this]; exact hq
        · exact Hn.out j y (by omega) hy
      · have Hq := Lib.hid hq
        go_wp2
        go_ret
        exact ⟨by rw [fidx_hit (p := fun x : Dee => x.id == id) Hn.out Hx.out Hq.out]; rfl, hg⟩
    · obtain rfl : k = l.length := by omega
      go_wp2
      go_ret
      exact ⟨by rw [fidx_none (p := fun x : Dee => x.id == id) Hn.out]; rfl, hg⟩

set_option maxHeartbeats 400000 in
theorem rof_any (id nx : Int) (l : List Dee) (A : Option Addr) (c : Nat) (w : World) (hs : Sl w 3 A l.length (l.flatMap Dee.vals)) (hl : l.length ≤ 1000000) :
    Calls Try.prog 13 #[.agg #[.slice A l.length c, .int .i64 nx], .int .i64 id] w fun e w' => e = .returned (.int .i64 (fidx (fun x : Dee => x.plot == id) l)) ∧ Grew w w' := by
  have Hs := Lib.hid hs
  clear hs
  go_enter Try.func13, Try.ntmps13
  go_wp2
  go_loopw [5] (fun i wr => ∃ k : Nat, k ≤ l.length ∧ i = .int .i64 k ∧ (∀ j x, j < k → l[j]? = some x → (x.plot == id) = false) ∧ Grew w wr ∧ Blk wr w.heap.size 28 #[.slice A l.length c, .int .i64 nx]) (fun i _ => l.length - (intOf i).toNat)
  case atStart => exact ⟨0, Nat.zero_le _, rfl, fun j x h => absurd h (by omega), (Chg.refl _ _).alloc _, Blk.new _ _ _⟩
  case round =>
    obtain ⟨k, hk, rfl, hno, hg, hb⟩ := hrel
    obtain ⟨c0, f0, s0⟩ := hb.facts
    have Hn := Lib.hid hno
    have Hb := Lib.hid hb
    clear hno hb
    by_cases hlt : k < l.length
    · obtain ⟨x, hx⟩ : ∃ x, l[k]? = some x := ⟨_, List.getElem?_eq_getElem hlt⟩
      obtain ⟨b, off, rfl, hb, d0, d1, d2⟩ := (Hs.out.grew hg).atDee hx
      have Hx := Lib.hid hx
      clear hx
      rcases hq : (x.plot == id) with _ | _
      · go_wp2
        refine ⟨⟨k + 1, by omega, by simp, fun j y hj hy => ?_, hg, Hb.out⟩, by simp [intOf]; omega⟩
        by_cases hjk : j = k
        · subst hjk
          have := Hx.out.symm.trans hy
          simp only [Option.some.injEq] at this
          rw [← this]; exact hq
        · exact Hn.out j y (by omega) hy
      · have Hq := Lib.hid hq
        go_wp2
        go_ret
        exact ⟨by rw [fidx_hit (p := fun x : Dee => x.plot == id) Hn.out Hx.out Hq.out]; rfl, hg⟩
    · obtain rfl : k = l.length := by omega
      go_wp2
      go_ret
      exact ⟨by rw [fidx_none (p := fun x : Dee => x.plot == id) Hn.out]; rfl, hg⟩

set_option maxHeartbeats 800000 in
theorem rheld_any (id nx : Int) (l : List Dee) (A : Option Addr) (c : Nat) (w : World) (hs : Sl w 3 A l.length (l.flatMap Dee.vals)) (hl : l.length ≤ 1000000) (xs : List Int) (hxs : heldOf l id = xs) :
    Calls Try.prog 15 #[.agg #[.slice A l.length c, .int .i64 nx], .int .i64 id] w fun e w' => OwnOut w w' 3 1 xs.length (xs.map (Value.int .i64)) (fun A c => .slice A xs.length c) e := by
  have Hs := Lib.hid hs
  have Hxs := Lib.hid hxs
  obtain ⟨i0, hi, hz0, hz1, hz2⟩ := info_parts intInfo
  clear hs hxs
  go_enter Try.func15, Try.ntmps15
  go_wp2
  obtain ⟨W0, hW0⟩ : ∃ W0, w.alloc (.cells #[.slice A l.length c, .int .i64 nx] 28) = W0 := ⟨_, rfl⟩
  have HG0 := Lib.hid (show Grew w W0 from hW0 ▸ (Chg.refl _ _).alloc _)
  have HB := Lib.hid (show Blk W0 w.heap.size 28 #[.slice A l.length c, .int .i64 nx] from hW0 ▸ Blk.new _ _ _)
  rw [hW0]
  clear hW0
  go_loopw [5, 6] (fun v i wr => ∃ (k n : Nat) (ys : List Int), k ≤ l.length ∧ i = .int .i64 k ∧ ys = heldOf (l.take k) id ∧ n = ys.length ∧ wr.ownsRow W0.heap.size 3 1 v n (ys.map (Value.int .i64)) ∧ Grew W0 wr) (fun _ i _ => l.length - (intOf i).toNat)
  case atStart => exact ⟨0, 0, [], Nat.zero_le _, rfl, rfl, rfl, World.ownsRow_nil _ _ _ _, Chg.refl _ _⟩
  case round =>
    obtain ⟨k, n, ys, hk, rfl, hys, hn, ho, hg⟩ := hrel
    obtain ⟨c0, f0, s0⟩ := (HB.out.grew hg).facts
    have hle := heldOf_len (l.take k) id
    rw [← hys, ← hn] at hle
    have hle2 : (l.take k).length ≤ l.length := by rw [List.length_take]; omega
    have Hys := Lib.hid (And.intro hys hn)
    have Ho := Lib.hid ho
    have Hg := Lib.hid hg
    have hsz := hg.size
    clear hys hn ho hg
    by_cases hlt : k < l.length
    · obtain ⟨x, hx⟩ : ∃ x, l[k]? = some x := ⟨_, List.getElem?_eq_getElem hlt⟩
      obtain ⟨b, off, rfl, hb, d0, d1, d2⟩ := ((Hs.out.grew HG0.out).grew Hg.out).atDee hx
      have Hx := Lib.hid hx
      clear hx
      rcases hq : (x.holder == id) with _ | _
      · have Hq := Lib.hid hq
        go_wp2
        refine ⟨⟨k + 1, n, ys, by omega, by simp, ?_, Hys.out.2, Ho.out, Hg.out⟩, by simp [intOf]; omega⟩
        rw [Hys.out.1]
        exact (ids_skip (p := fun x : Dee => x.holder == id) Hx.out Hq.out).symm
      · have Hq := Lib.hid hq
        go_wp2_with (at_builtin; refine wpList_append_own_at _ (by rfl) _ _ 42 (by rfl) W0.heap.size 3 i0 _ 1 8 Try.underlying42 hi hz0 hz1 hz2 rfl (by decide) _ n _ (by rfl) (own_grew Ho.out ((Chg.refl NoF wr).alloc (.cells #[.int .i64 x.id] 3))) ⟨wr.heap.size, 0, none⟩ 1 1 [.int .i64 x.id] (by rfl) (by rfl) (cell_one_new _ _ _) (by simp [Value.oneCell']) (by simp only [maxLen]; omega) (by omega) (by simp; omega) ?_; intro v' w5 ho5 hg5 _ _; have HO5 := Lib.hid ho5; have HG5 := Lib.hid (grew_row (Hg.out.alloc _) (own_grew Ho.out ((Chg.refl NoF wr).alloc (.cells #[.int .i64 x.id] 3))) hg5); clear ho5 hg5)
        refine ⟨⟨k + 1, n + 1, ys ++ [x.id], by omega, by simp, ?_, by rw [Hys.out.2]; simp, ?_, HG5.out⟩, by simp [intOf]; omega⟩
        · rw [Hys.out.1]
          exact (ids_take (p := fun x : Dee => x.holder == id) Hx.out Hq.out).symm
        · have := HO5.out
          simpa using this
    · obtain rfl : k = l.length := by omega
      obtain ⟨hy1, hy2⟩ := Hys.out
      rw [List.take_length, Hxs.out] at hy1
      obtain ⟨A1, c1, rfl, -⟩ := own_shape Ho.out
      clear Hys
      subst hy1
      have Hn := Lib.hid hy2
      clear hy2
      go_wp2
      go_ret
      exact ⟨A1, c1, by rw [← Hn.out]; rfl, by have := own_base Ho.out HG0.out.size; rwa [Hn.out] at this, Grew.trans HG0.out Hg.out⟩

set_option maxHeartbeats 400000 in
theorem rmay_any (id nx r : Int) (l : List Dee) (A : Option Addr) (c : Nat) (w : World) (hs : Sl w 3 A l.length (l.flatMap Dee.vals)) (hl : l.length ≤ 1000000) (hr : mayE l id = r) :
    Calls Try.prog 17 #[.agg #[.slice A l.length c, .int .i64 nx], .int .i64 id] w fun e w' => e = .returned (.int .i64 r) ∧ Grew w w' := by
  obtain ⟨n, hn⟩ : ∃ n, n = (heldOf l id).length := ⟨_, rfl⟩
  have hnl := heldOf_len l id
  rw [← hn] at hnl
  have HB := Lib.hid (Blk.new w 28 #[.slice A l.length c, .int .i64 nx])
  have Hs := Lib.hid (hs.grew ((Chg.refl NoF w).alloc (.cells #[.slice A l.length c, .int .i64 nx] 28)))
  have Hr : r = if id < 1 then 10 else if 3 ≤ n then 34 else 0 := by rw [← hr, hn]; rfl
  have Hn := Lib.hid hn
  clear hs hr hn
  by_cases h1 : id < 1
  · subst Hr
    go_enter Try.func17, Try.ntmps17
    go_wp2
    go_ret
    exact ⟨by simp [h1], (Chg.refl _ _).alloc _⟩
  · by_cases h2 : 3 ≤ n
    all_goals
      subst Hr
      go_enter Try.func17, Try.ntmps17
      go_wp2_with (go_at_call 15; refine (rheld_any id nx l A c _ Hs.out hl (heldOf l id) rfl).mono ?_; rintro e w1 ⟨A1, c1, rfl, ho1, hg1⟩; rw [← Hn.out])
      go_ret
      exact ⟨by simp [h1, h2], Grew.trans ((Chg.refl _ _).alloc _) hg1⟩

end Go.Proofs.Ytkcakkblammpiaa
