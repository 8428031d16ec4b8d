/- The rents: put. -/
import Derived.Test.YtjpkpckgkhbfpaaRenB
import Derived.StillTailTactics
namespace Go.Proofs.Ytjpkpckgkhbfpaa
open Go.RowKit Go.Maps

theorem wf64 {n : Int} (h0 : -9223372036854775808 ≤ n) (h1 : n ≤ 9223372036854775807) : (Lit.int .i64 n).wf = true := wfInt h0 h1

theorem rput_end {w w6 : World} {b R T qb n s c M k : Nat} {l : List Itm} {A A0 : Option Addr} {added : Int} {F : Nat → Prop} {x' : List Rw} (hin : RIn w6 b R T qb (rwm x') n (atm l) s l A c M added) (hn : n = x'.length) (hs : s = l.length) (hp : RP x' l added)
    (hk : 0 ≤ added ∧ added ≤ k ∧ x'.length ≤ k) (hc : Chg (RF b R T qb A0 M) w w6) (hA : ∀ j, QF qb A M j → QF qb A0 M j ∨ w.heap.size ≤ j) (hF : ∀ j, RF b R T qb A0 M j → F j) (hlt : ∀ j, F j → j < w.heap.size) (hfit : ∀ r ∈ x', r.fit) : RTo w w6 b F x' k := by
  subst hn hs
  refine ⟨fun j => F j ∨ (w.heap.size ≤ j ∧ RF b R T qb A M j), ⟨R, T, qb, l, A, c, M, added, hin, hp, hk, fun j hj => ?_, fun j hj => ?_, hfit⟩, hc.mono fun j _ hj => hF j hj, fun j hj => hj.imp id fun e => e.1⟩
  · rcases hj with rfl | rfl | rfl | e
    · exact .inl (hF _ (.inl rfl))
    · exact .inl (hF _ (.inr (.inl rfl)))
    · exact .inl (hF _ (.inr (.inr (.inl rfl))))
    · rcases hA j e with h | h
      · exact .inl (hF _ (.inr (.inr (.inr h))))
      · exact .inr ⟨h, .inr (.inr (.inr e))⟩
  · rcases hj with h | h
    · exact Nat.lt_of_lt_of_le (hlt j h) hc.size
    · exact hin.lt j h.2

set_option maxRecDepth 100000 in
set_option maxHeartbeats 3200000 in
theorem rput_old (b : Nat) (F : Nat → Prop) (x : List Rw) (k : Nat) (r y : Rw) (w : World) (hs : RS w b F x k) (hr : r.fit) (hy : fnd x r.house = some y) (hk : k ≤ 900000) :
    Calls Try.prog 29 #[.pointer (some ⟨b, 0, none⟩), (.agg #[.int .i64 r.house, .int .i64 r.rate, .int .i64 r.due])] w fun e w' => e = .returned (.tuple #[]) ∧ RTo w w' b F (putL x r) k := by
  obtain ⟨R, T, qb, l, A, c, M, added, hin, hp, hkk, hF, hlt, hfit⟩ := hs
  obtain ⟨j, i, hj, hv, hd⟩ := hp.has hy
  obtain ⟨W0, hW0⟩ : ∃ W0, w.alloc (.cells #[.int .i64 r.house, .int .i64 r.rate, .int .i64 r.due] 30) = W0 := ⟨_, rfl⟩
  have hg0 : Grew w W0 := hW0 ▸ (Chg.refl _ _).alloc _
  have hin0 := hin.grew hg0
  have hx0 : Blk W0 w.heap.size 30 #[.int .i64 r.house, .int .i64 r.rate, .int .i64 r.due] := hW0 ▸ Blk.new w _ _
  have hl := (hin0.ats.grew ((Chg.refl _ _).drew)).look_ok (t := 62) kInt Try.underlying3 Try.underlying62 (zInt _) (wf64 (by have := hr.1; omega) hr.2.1)
  have hat : atm l r.house = some (.int .i64 i.n) := by rw [← hv]; exact atm_mem hp.nv (List.mem_of_getElem? hj)
  rw [hat] at hl
  simp only [Option.getD_some, Option.isSome_some] at hl
  obtain ⟨c0, f0, s0⟩ := hin0.blk.facts
  obtain ⟨x0, xf0, xs0⟩ := hx0.facts
  have hxlt : ∀ j, RF b R T qb A M j → j ≠ w.heap.size := fun j hj e => by have := hin.lt j hj; omega
  have hlen : l.length ≤ 1000000 := by rw [hp.len]; omega
  have HW := Lib.hid hW0
  have HI := Lib.hid (And.intro hin0 (And.intro hg0 (And.intro hp hx0)))
  have HJ := Lib.hid (And.intro hj (And.intro hv (And.intro hd (And.intro hy (And.intro hr (And.intro hkk (And.intro hF (And.intro hlt (And.intro hfit hxlt)))))))))
  clear hW0 hg0 hin0 hx0 hat hin hp hj hv hd hy hr hkk hF hlt hfit hxlt
  go_enter Try.func29, Try.ntmps29
  go_wp2_with (rw [HW.out])
  go_region
  obtain ⟨W1, hW1, hg1⟩ : ∃ W1, W0.drew = W1 ∧ Grew W0 W1 := ⟨_, rfl, (Chg.refl _ _).drew⟩
  rw [hW1]
  obtain ⟨hin0, hg0, hp, hx0⟩ := HI.out
  have hin1 := hin0.grew hg1
  have hx1 := hx0.grew hg1
  clear hl c0 f0 s0 x0 xf0 xs0
  obtain ⟨c0, f0, s0⟩ := hin1.blk.facts
  obtain ⟨x0, xf0, xs0⟩ := hx1.facts
  have H1 := Lib.hid (And.intro hin1 (And.intro (Grew.trans hg0 hg1) (And.intro hp hx1)))
  clear hin1 hx1 hin0 hg0 hg1 hp hx0 HI hW1
  go_wp2_with fail
  refine wp_region_still_tail 7 (by kernel_rfl) (by kernel_rfl) ?_
  simp only [List.take_succ_cons, List.take_zero, List.drop_succ_cons, List.drop_zero]
  repeat still_step
  refine wpStill_nil ?_
  change wpList _ _ _ _ _ W1.drew
  obtain ⟨hj, hv, hd, hy, hr, hkk, hF, hlt, hfit, hxlt⟩ := HJ.out
  obtain ⟨hin1, hg0, hp, hx0⟩ := H1.out
  have H2 := Lib.hid (hin1.grew ((Chg.refl NoF W1).drew))
  clear hin1 H1 c0 f0 s0 x0 xf0 xs0
  go_wp2_with fail
  refine (move_some qb j i r.due l A c M added _ H2.out.q hj hlen).mono ?_
  rintro e w3 ⟨rfl, hq3, hc3⟩
  obtain ⟨hp3, hat3⟩ := hp.move hy hj hv hd (movL_perm hj r.due)
  have hin3 := H2.out.queue hc3 hq3
  rw [hat3] at hin3
  have hx3 : Blk w3 w.heap.size 30 #[.int .i64 r.house, .int .i64 r.rate, .int .i64 r.due] := (hx0.drew).chg hc3 (fun e => hxlt _ (.inr (.inr (.inr e))) rfl)
  obtain ⟨c0, f0, s0⟩ := hin3.blk.facts
  obtain ⟨x0, xf0, xs0⟩ := hx3.facts
  obtain ⟨w5, hr5, hm5, hc5⟩ := (hin3.rows.grew ((Chg.refl NoF w3).drew)).put (t := 59) kInt Try.underlying3 Try.underlying59 (by simp only [maxLen]; omega) (wf64 (by have := hr.1; omega) hr.2.1) (.agg #[.int .i64 r.house, .int .i64 r.rate, .int .i64 r.due])
  have hsome : (rwm x r.house).isSome = true := by unfold rwm; rw [hy]; rfl
  have hxl : (putL x r).length = x.length := by obtain ⟨t, h1, h2⟩ := putL_perm_old hp.nd hy; rw [h1.length_eq, h2.length_eq]; rfl
  rw [rwm_putL r hp.nd, if_pos hsome, ← hxl] at hm5
  have HE := Lib.hid (And.intro hin3 (And.intro hc3 (And.intro hp3 (And.intro hm5 hc5))))
  have HL := Lib.hid (And.intro hxl (And.intro hkk hp.len))
  clear hin3 hc3 hq3 hp3 hat3 hx3 hm5 hc5 hsome hxl hkk hj hv hd hy hx0 hp hxlt H2 HJ
  go_wp2_with fail
  go_region
  go_wp2_with fail
  refine bodyPost_end (results_none rfl _ _ _) rfl ?_
  obtain ⟨hin3, hc3, hp3, hm5, hc5⟩ := HE.out
  have hxl := HL.out.1
  have hkk := HL.out.2.1
  have hpl := HL.out.2.2
  have hcc5 : Chg (fun j => j = R) w3 w5 := Chg.trans ((Chg.refl _ w3).drew) hc5 fun _ _ e => e
  refine ⟨rfl, rput_end (A0 := A) (hin3.put_row hcc5 hm5) rfl (by rw [hp3.len, hxl, hpl]) hp3 ⟨hkk.1, hkk.2.1, by omega⟩ ?_ (fun j hj => .inl hj) hF hlt ?_⟩
  · exact Chg.trans (Chg.trans (hg0.then ((Chg.refl _ _).drew)) hc3 fun _ _ e => .inr (.inr (.inr e))) hcc5 fun _ _ e => .inr (.inl e)
  · intro z hz
    rcases mem_putL.1 hz with rfl | ⟨hz, -⟩
    · exact hr
    · exact hfit z hz

set_option maxRecDepth 100000 in
set_option maxHeartbeats 3200000 in
theorem rput_new (b : Nat) (F : Nat → Prop) (x : List Rw) (k : Nat) (r : Rw) (w : World) (hs : RS w b F x k) (hr : r.fit) (hy : fnd x r.house = none) (hk : k ≤ 900000) :
    Calls Try.prog 29 #[.pointer (some ⟨b, 0, none⟩), (.agg #[.int .i64 r.house, .int .i64 r.rate, .int .i64 r.due])] w fun e w' => e = .returned (.tuple #[]) ∧ RTo w w' b F (putL x r) (k + 1) := by
  obtain ⟨R, T, qb, l, A, c, M, added, hin, hp, hkk, hF, hlt, hfit⟩ := hs
  obtain ⟨W0, hW0⟩ : ∃ W0, w.alloc (.cells #[.int .i64 r.house, .int .i64 r.rate, .int .i64 r.due] 30) = W0 := ⟨_, rfl⟩
  have hg0 : Grew w W0 := hW0 ▸ (Chg.refl _ _).alloc _
  have hin0 := hin.grew hg0
  have hx0 : Blk W0 w.heap.size 30 #[.int .i64 r.house, .int .i64 r.rate, .int .i64 r.due] := hW0 ▸ Blk.new w _ _
  have hl := (hin0.ats.grew ((Chg.refl _ _).drew)).look_ok (t := 62) kInt Try.underlying3 Try.underlying62 (zInt _) (wf64 (by have := hr.1; omega) hr.2.1)
  have hat : atm l r.house = none := atm_none (hp.no hy)
  rw [hat] at hl
  simp only [Option.getD_none, Option.isSome_none] at hl
  obtain ⟨c0, f0, s0⟩ := hin0.blk.facts
  obtain ⟨x0, xf0, xs0⟩ := hx0.facts
  have hxlt : ∀ j, RF b R T qb A M j → j ≠ w.heap.size := fun j hj e => by have := hin.lt j hj; omega
  have hlen : l.length ≤ 999999 := by rw [hp.len]; omega
  have hadd : added ≤ 1000000 := by omega
  have hadd0 := hkk.1
  have HW := Lib.hid hW0
  have HI := Lib.hid (And.intro hin0 (And.intro hg0 (And.intro hp hx0)))
  have HJ := Lib.hid (And.intro hy (And.intro hr (And.intro hkk (And.intro hF (And.intro hlt (And.intro hfit hxlt))))))
  clear hW0 hg0 hin0 hx0 hat hin hp hy hr hkk hF hlt hfit hxlt
  go_enter Try.func29, Try.ntmps29
  go_wp2_with (rw [HW.out])
  go_region
  obtain ⟨W1, hW1, hg1⟩ : ∃ W1, W0.drew = W1 ∧ Grew W0 W1 := ⟨_, rfl, (Chg.refl _ _).drew⟩
  rw [hW1]
  obtain ⟨hin0, hg0, hp, hx0⟩ := HI.out
  have hin1 := hin0.grew hg1
  have hx1 := hx0.grew hg1
  have hxlt := HJ.out.2.2.2.2.2.2
  clear hl c0 f0 s0 x0 xf0 xs0
  have H1 := Lib.hid (And.intro hin1 (And.intro (Grew.trans hg0 hg1) (And.intro hp hx1)))
  have H2 := Lib.hid (hin1.grew ((Chg.refl NoF W1).drew))
  have hk0 := hin1.blk.cell
  have hkx := hx1.cell
  have hb0 := hin1.blk.lt
  have hbx := hx1.lt
  clear hin1 hx1 hin0 hg0 hg1 hp hx0 HI hW1
  go_wp2_with fail
  obtain ⟨B0, hB0⟩ : ∃ B0 : Array Value, #[.map (some R), .pointer (some ⟨qb, 0, none⟩), .map (some T)] = B0 := ⟨_, rfl⟩
  go_region_held3 (fun w' => (w'.cell? ⟨b, 1, none⟩ = some (.pointer (some ⟨qb, 0, none⟩)) ∧ w'.cell? ⟨b, 2, none⟩ = some (.map (some T))) ∧ (w'.cell? ⟨w.heap.size, 0, none⟩ = some (.int .i64 r.house) ∧ w'.cell? ⟨w.heap.size, 2, none⟩ = some (.int .i64 r.due)))
    ((first
      | exact ⟨⟨hk0 1, hk0 2⟩, ⟨hkx 0, hkx 2⟩⟩
      | exact ⟨⟨hb4 1, hb4 2⟩, ⟨hx4 0, hx4 2⟩⟩
      | exact ⟨⟨hb5 1, hb5 2⟩, ⟨hx5 0, hx5 2⟩⟩))
    (first
      | (go_at_call 44; refine (add_any qb r.due r.house l A c M added _ H2.out.q hlen hadd0 hadd (H1.out.2.2.1.le)).mono ?_; rintro e w4 ⟨rfl, hq4⟩; have HQ4 := Lib.hid hq4; obtain ⟨A4, c4, hQ4, hc4, hn4⟩ := hq4; have hin4 := H2.out.queue hc4 hQ4; have hxb4 := ((H1.out.2.2.2).drew).chg hc4 (fun e => hxlt _ (.inr (.inr (.inr e))) rfl); have hb4 := hin4.blk.cell; have hx4 := hxb4.cell; obtain ⟨w5, hr5, hm5, hc5⟩ := hin4.ats.put (t := 62) kInt Try.underlying3 Try.underlying62 (by simp only [maxLen]; omega) (wf64 (by have := HJ.out.2.1.1; omega) HJ.out.2.1.2.1) (.int .i64 (added + 1)); have hin5 := hin4.put_at hc5 hm5; have hxb5 := hxb4.chg hc5 (fun e => hxlt _ (.inr (.inr (.inl e))) rfl); have hb5 := hin5.blk.cell; have hx5 := hxb5.cell; have H4 := Lib.hid (And.intro hc4 (And.intro hn4 (And.intro hc5 (And.intro hxb5 hin5)))); clear hQ4 hc4 hn4 hin4 hxb4 hm5 hc5 hin5 hxb5))
  obtain ⟨hy, hr, hkk, hF, hlt, hfit, hxlt⟩ := HJ.out
  obtain ⟨hc4, hn4, hc5, hxb5, hin5⟩ := H4.out
  obtain ⟨hp5, hat5⟩ := H1.out.2.2.1.add hy (l' := upL (l ++ [⟨added + 1, r.due, r.house⟩]) l.length) (upL_perm _ _)
  rw [hat5, if_neg (by rw [atm_none (H1.out.2.2.1.no hy)]; simp)] at hin5
  obtain ⟨w6, hr6, hm6, hc6⟩ := (hin5.rows.grew ((Chg.refl NoF w5).drew)).put (t := 59) kInt Try.underlying3 Try.underlying59 (by simp only [maxLen]; omega) (wf64 (by have := hr.1; omega) hr.2.1) (.agg #[.int .i64 r.house, .int .i64 r.rate, .int .i64 r.due])
  have hsome : ¬ (rwm x r.house).isSome = true := by unfold rwm; rw [hy]; simp
  have hxl : (putL x r).length = x.length + 1 := (putL_perm_new hy).length_eq
  rw [rwm_putL r H1.out.2.2.1.nd, if_neg hsome, ← hxl] at hm6
  have hpl := H1.out.2.2.1.len
  have hg0 := H1.out.2.1
  obtain ⟨c0, f0, s0⟩ := hin5.blk.facts
  obtain ⟨x0, xf0, xs0⟩ := hxb5.facts
  have HE := Lib.hid (And.intro hin5 (And.intro hc4 (And.intro hn4 (And.intro hc5 (And.intro hp5 (And.intro hm6 hc6))))))
  have HL := Lib.hid (And.intro hxl (And.intro hkk (And.intro hpl hg0)))
  clear hin5 hc4 hn4 hc5 hp5 hm6 hc6 hxl hkk hpl hg0 hxlt hsome hy hat5 hxb5 H4 HJ H2 H1 HQ4 hk0 hkx hb4 hx4 hb5 hx5 hr5 hB0 hb0 hbx
  go_wp2_with fail
  go_region
  go_wp2_with fail
  refine bodyPost_end (results_none rfl _ _ _) rfl ?_
  obtain ⟨hin5, hc4, hn4, hc5, hp5, hm6, hc6⟩ := HE.out
  obtain ⟨hxl, hkk, hpl, hg0⟩ := HL.out
  have hcc6 : Chg (fun j => j = R) w5 w6 := Chg.trans ((Chg.refl _ w5).drew) hc6 fun _ _ e => e
  have hsz : w.heap.size ≤ W1.heap.size := hg0.size
  refine ⟨rfl, rput_end (A0 := A) (hin5.put_row hcc6 hm6) rfl (by rw [hp5.len, hxl, hpl]) hp5 ⟨by omega, by omega, by omega⟩ ?_ (fun j hj => (hn4 j hj).imp id fun e => Nat.le_trans hsz e) hF hlt ?_⟩
  · exact Chg.trans (Chg.trans (Chg.trans (hg0.then ((Chg.refl _ _).drew)) hc4 fun _ _ e => .inr (.inr (.inr e))) hc5 fun _ _ e => .inr (.inr (.inl e))) hcc6 fun _ _ e => .inr (.inl e)
  · intro z hz
    rcases mem_putL.1 hz with rfl | ⟨hz, -⟩
    · exact hr
    · exact hfit z hz

end Go.Proofs.Ytjpkpckgkhbfpaa
