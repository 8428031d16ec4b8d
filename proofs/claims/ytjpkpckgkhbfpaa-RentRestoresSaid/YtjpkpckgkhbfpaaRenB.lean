/- The rents: what lies in memory; New, Get, Len. -/
import Derived.Test.YtjpkpckgkhbfpaaRenA
namespace Go.Proofs.Ytjpkpckgkhbfpaa
open Go.RowKit Go.Maps

/-- Rents in memory: rm, m: the two maps. -/
structure RIn (w : World) (b R T qb : Nat) (rm : Int → Option Value) (n : Nat) (m : Int → Option Value) (s : Nat) (l : List Itm) (A : Option Addr) (c M : Nat) (added : Int) : Prop where
  blk : Blk w b 64 #[.map (some R), .pointer (some ⟨qb, 0, none⟩), .map (some T)]
  rows : IMap Try.prog 3 w R rm n
  ats : IMap Try.prog 3 w T m s
  q : Q w qb l A c M added
  sep : R ≠ T ∧ R ≠ M ∧ T ≠ M

/-- The blocks of rents. -/
def RF (b R T qb : Nat) (A : Option Addr) (M : Nat) : Nat → Prop := fun k => k = b ∨ k = R ∨ k = T ∨ QF qb A M k

section
variable {w w' : World} {b R T qb n s c M : Nat} {rm m : Int → Option Value} {l : List Itm} {A : Option Addr} {added : Int}
theorem RIn.b_q (h : RIn w b R T qb rm n m s l A c M added) : ¬ QF qb A M b := by
  rintro (e | e | ⟨a, rfl, e⟩)
  · exact Blk.ne_ h.blk h.q.isIn.blk (by decide) e
  · exact map_ne h.q.isIn.mp h.blk e.symm
  · obtain ⟨g, rfl, hg⟩ := own_some h.q.isIn.own
    exact own_blk_ne h.q.isIn.own h.blk (by decide) (by simp [Value.ownBlock]; exact e.symm)
theorem RIn.map_q {X k : Nat} {mm : Int → Option Value} (h : RIn w b R T qb rm n m s l A c M added) (hX : IMap Try.prog 3 w X mm k) (hM : X ≠ M) : ¬ QF qb A M X := by
  rintro (e | e | ⟨a, rfl, e⟩)
  · exact map_ne hX h.q.isIn.blk e
  · exact hM e
  · obtain ⟨g, rfl, hg⟩ := own_some h.q.isIn.own
    obtain ⟨cur, -, hgc, -⟩ := own_row h.q.isIn.own
    exact map_ne hX (show Blk w g _ cur from hgc) e
theorem RIn.R_q (h : RIn w b R T qb rm n m s l A c M added) : ¬ QF qb A M R := h.map_q h.rows h.sep.2.1
theorem RIn.T_q (h : RIn w b R T qb rm n m s l A c M added) : ¬ QF qb A M T := h.map_q h.ats h.sep.2.2
theorem RIn.lt (h : RIn w b R T qb rm n m s l A c M added) : ∀ j, RF b R T qb A M j → j < w.heap.size := by
  rintro j (rfl | rfl | rfl | e)
  · exact h.blk.lt
  · exact h.rows.lt
  · exact h.ats.lt
  · exact QF_lt h.q.isIn j e
theorem RIn.chg {G : Nat → Prop} (h : RIn w b R T qb rm n m s l A c M added) (hc : Chg G w w') (hG : ∀ k, RF b R T qb A M k → ¬ G k) : RIn w' b R T qb rm n m s l A c M added :=
  ⟨h.blk.chg hc (hG _ (.inl rfl)), h.rows.chg hc (hG _ (.inr (.inl rfl))), h.ats.chg hc (hG _ (.inr (.inr (.inl rfl)))),
   ⟨h.q.isIn.chg hc fun k hk => hG k (.inr (.inr (.inr hk))), h.q.nd, h.q.ok⟩, h.sep⟩
theorem RIn.grew (h : RIn w b R T qb rm n m s l A c M added) (hc : Grew w w') : RIn w' b R T qb rm n m s l A c M added := h.chg hc fun _ _ => id
/-- The queue alone has changed. -/
theorem RIn.queue {l' : List Itm} {A' : Option Addr} {c' : Nat} {added' : Int} (h : RIn w b R T qb rm n m s l A c M added) (hc : Chg (QF qb A M) w w') (hq : Q w' qb l' A' c' M added') : RIn w' b R T qb rm n m s l' A' c' M added' :=
  ⟨h.blk.chg hc h.b_q, h.rows.chg hc h.R_q, h.ats.chg hc h.T_q, hq, h.sep⟩
theorem RIn.ne (h : RIn w b R T qb rm n m s l A c M added) : R ≠ b ∧ T ≠ b ∧ R ≠ qb ∧ T ≠ qb := ⟨map_ne h.rows h.blk, map_ne h.ats h.blk, map_ne h.rows h.q.isIn.blk, map_ne h.ats h.q.isIn.blk⟩
/-- The map of houses alone has changed. -/
theorem RIn.put_at {m' : Int → Option Value} {s' : Nat} (h : RIn w b R T qb rm n m s l A c M added) (hc : Chg (fun j => j = T) w w') (hm : IMap Try.prog 3 w' T m' s') : RIn w' b R T qb rm n m' s' l A c M added :=
  ⟨h.blk.chg hc (Ne.symm h.ne.2.1), h.rows.chg hc h.sep.1, hm, ⟨h.q.isIn.chg hc fun k hk e => h.T_q (e ▸ hk), h.q.nd, h.q.ok⟩, h.sep⟩
theorem RIn.put_row {rm' : Int → Option Value} {n' : Nat} (h : RIn w b R T qb rm n m s l A c M added) (hc : Chg (fun j => j = R) w w') (hm : IMap Try.prog 3 w' R rm' n') : RIn w' b R T qb rm' n' m s l A c M added :=
  ⟨h.blk.chg hc (Ne.symm h.ne.1), hm, h.ats.chg hc (Ne.symm h.sep.1), ⟨h.q.isIn.chg hc fun k hk e => h.R_q (e ▸ hk), h.q.nd, h.q.ok⟩, h.sep⟩
end

/-- May it be a row? -/
def Rw.fit (r : Rw) : Prop := 1 ≤ r.house ∧ r.house ≤ 9223372036854775807 ∧ 1 ≤ r.rate ∧ r.rate ≤ 1099511627776 ∧ 0 ≤ r.due ∧ r.due ≤ 4398046511104

/-- Rents of just these rows; F: blocks that hold them; k: at most so many were added. -/
def RS (w : World) (b : Nat) (F : Nat → Prop) (x : List Rw) (k : Nat) : Prop :=
  ∃ (R T qb : Nat) (l : List Itm) (A : Option Addr) (c M : Nat) (added : Int), RIn w b R T qb (rwm x) x.length (atm l) l.length l A c M added ∧ RP x l added ∧ (0 ≤ added ∧ added ≤ k ∧ x.length ≤ k) ∧
    (∀ j, RF b R T qb A M j → F j) ∧ (∀ j, F j → j < w.heap.size) ∧ ∀ r ∈ x, r.fit
/-- What a call that changes rents leaves. -/
def RTo (w w' : World) (b : Nat) (F : Nat → Prop) (x : List Rw) (k : Nat) : Prop := ∃ F', RS w' b F' x k ∧ Chg F w w' ∧ ∀ j, F' j → F j ∨ w.heap.size ≤ j

theorem RS.chg {w w' : World} {b k : Nat} {F G : Nat → Prop} {x : List Rw} (h : RS w b F x k) (hc : Chg G w w') (hG : ∀ j, F j → ¬ G j) : RS w' b F x k := by
  obtain ⟨R, T, qb, l, A, c, M, added, hin, hp, hk, hF, hlt, hfit⟩ := h
  exact ⟨R, T, qb, l, A, c, M, added, hin.chg hc (fun j hj => hG j (hF j hj)), hp, hk, hF, fun j hj => Nat.lt_of_lt_of_le (hlt j hj) hc.size, hfit⟩
theorem RS.grew {w w' : World} {b k : Nat} {F : Nat → Prop} {x : List Rw} (h : RS w b F x k) (hc : Grew w w') : RS w' b F x k := h.chg hc fun _ _ => id
theorem RTo.grew {w w' w2 : World} {b k : Nat} {F : Nat → Prop} {x : List Rw} (h : RTo w w' b F x k) (hc : Grew w' w2) : RTo w w2 b F x k := by
  obtain ⟨F', h1, h2, h3⟩ := h
  exact ⟨F', h1.grew hc, h2.grew hc, h3⟩
theorem RTo.ahead {w w' w2 : World} {b k : Nat} {F : Nat → Prop} {x : List Rw} (hc : Grew w w') (h : RTo w' w2 b F x k) : RTo w w2 b F x k := by
  obtain ⟨F', h1, h2, h3⟩ := h
  refine ⟨F', h1, hc.then h2, fun j hj => (h3 j hj).imp id fun e => ?_⟩
  have := hc.size; omega
theorem RS.to {w w' : World} {b k : Nat} {F : Nat → Prop} {x : List Rw} (h : RS w b F x k) (hc : Grew w w') : RTo w w' b F x k := ⟨F, h.grew hc, hc.chg, fun _ hj => .inl hj⟩
theorem RS.fits {w : World} {b k : Nat} {F : Nat → Prop} {x : List Rw} (h : RS w b F x k) : ∀ r ∈ x, r.fit := by
  obtain ⟨R, T, qb, l, A, c, M, added, hin, hp, hk, hF, hlt, hfit⟩ := h
  exact hfit
theorem RS.nd {w : World} {b k : Nat} {F : Nat → Prop} {x : List Rw} (h : RS w b F x k) : (x.map Rw.house).Nodup := by
  obtain ⟨R, T, qb, l, A, c, M, added, hin, hp, hk, hF, hlt, hfit⟩ := h
  exact hp.nd
theorem RS.more {w : World} {b k k' : Nat} {F : Nat → Prop} {x : List Rw} (h : RS w b F x k) (hk : k ≤ k') : RS w b F x k' := by
  obtain ⟨R, T, qb, l, A, c, M, added, hin, hp, hk2, hF, hlt, hfit⟩ := h
  exact ⟨R, T, qb, l, A, c, M, added, hin, hp, ⟨hk2.1, by omega, by omega⟩, hF, hlt, hfit⟩

set_option maxHeartbeats 800000 in
theorem rnew_any (w : World) :
    Calls Try.prog 9 #[] w fun e w' => e = .returned (.pointer (some ⟨w.heap.size + 4, 0, none⟩)) ∧ RTo w w' (w.heap.size + 4) NoF [] 0 := by
  have qm : ∀ u : World, (Instr.makeMap 62 none).run Try.prog u = .ok (.map (some u.heap.size)) (u.alloc (.map #[] 0)) := fun u => run_makeMap _ u
  have qm2 : ∀ u : World, (Instr.makeMap 59 none).run Try.prog u = .ok (.map (some u.heap.size)) (u.alloc (.map #[] 0)) := fun u => run_makeMap _ u
  go_enter Try.func9, Try.ntmps9
  go_wp2_with (go_at_call 26; refine (new_any _).mono ?_; rintro e w1 ⟨rfl, rfl⟩)
  go_ret
  refine ⟨by simp, ?_⟩
  obtain ⟨W1, hW1⟩ : ∃ W1, w.alloc (.map #[] 0) = W1 := ⟨_, rfl⟩
  have s1 : W1.heap.size = w.heap.size + 1 := by rw [← hW1]; simp
  rw [hW1]
  have g1 : Grew w W1 := hW1 ▸ (Chg.refl _ _).alloc _
  have hR : IMap Try.prog 3 W1 w.heap.size (fun _ => none) 0 := hW1 ▸ IMap.made Try.prog 3 w
  obtain ⟨W2, hW2⟩ : ∃ W2, (W1.alloc (.map #[] 0)).alloc (.cells #[.slice none 0 0, .map (some W1.heap.size), .int .i64 0] 80) = W2 := ⟨_, rfl⟩
  have hQ : QMine W1 W2 (W1.heap.size + 1) [] none 0 W1.heap.size 0 := hW2 ▸ QMine.made W1
  have s2 : W2.heap.size = w.heap.size + 3 := by rw [← hW2]; simp [s1]
  rw [s1] at hQ hW2
  rw [hW2]
  obtain ⟨W3, hW3⟩ : ∃ W3, W2.alloc (.map #[] 0) = W3 := ⟨_, rfl⟩
  have s3 : W3.heap.size = w.heap.size + 4 := by rw [← hW3]; simp [s2]
  have hT : IMap Try.prog 3 W3 W2.heap.size (fun _ => none) 0 := hW3 ▸ IMap.made Try.prog 3 W2
  have g3 : Grew W2 W3 := hW3 ▸ (Chg.refl _ _).alloc _
  rw [hW3]
  obtain ⟨W4, hW4⟩ : ∃ W4, W3.alloc (.cells #[.map (some w.heap.size), .pointer (some ⟨w.heap.size + 1 + 1, 0, none⟩), .map (some (w.heap.size + 1 + 1 + 1))] 64) = W4 := ⟨_, rfl⟩
  have g4 : Grew W3 W4 := hW4 ▸ (Chg.refl _ _).alloc _
  have hB : Blk W4 (w.heap.size + 4) 64 #[.map (some w.heap.size), .pointer (some ⟨w.heap.size + 1 + 1, 0, none⟩), .map (some (w.heap.size + 1 + 1 + 1))] := by
    have := Blk.new W3 64 #[.map (some w.heap.size), .pointer (some ⟨w.heap.size + 1 + 1, 0, none⟩), .map (some (w.heap.size + 1 + 1 + 1))]
    rw [s3] at this
    rw [← hW4]; exact this
  have s4 : W4.heap.size = w.heap.size + 5 := by rw [← hW4]; simp [s3]
  rw [hW4]
  rw [s2] at hT
  have h2 := Grew.trans g3 g4
  refine ⟨fun j => w.heap.size ≤ j ∧ j < W4.heap.size, ⟨w.heap.size, w.heap.size + 1 + 1 + 1, w.heap.size + 1 + 1, [], none, 0, w.heap.size + 1, 0, ⟨hB, (hR.grew hQ.grew).grew h2, hT.grew g4, hQ.q.grew h2, by omega⟩, ⟨by simp, by simp, by simp⟩, by simp, ?_, fun j hj => hj.2, by simp⟩, Grew.trans g1 (Grew.trans hQ.grew h2), fun j hj => .inr hj.1⟩
  rintro j (rfl | rfl | rfl | rfl | rfl | ⟨a, ha, -⟩)
  · omega
  · omega
  · omega
  · omega
  · omega
  · cases ha

set_option maxRecDepth 100000 in
set_option maxHeartbeats 800000 in
theorem rget_none (b : Nat) (F : Nat → Prop) (x : List Rw) (k : Nat) (h : Int) (w : World) (hs : RS w b F x k) (hh : (Lit.int .i64 h).wf = true) (hx : fnd x h = none) :
    Calls Try.prog 13 #[.pointer (some ⟨b, 0, none⟩), .int .i64 h] w fun e w' => e = .returned (.tuple #[(.agg #[.int .i64 0, .int .i64 0, .int .i64 0]), .int .i64 14]) ∧ Grew w w' := by
  obtain ⟨R, T, qb, l, A, c, M, added, hin, -⟩ := hs
  have hr := (hin.grew ((Chg.refl _ w).alloc (.cells #[.int .i64 0, .int .i64 0, .int .i64 0] 30))).rows.look_ok (t := 59) kInt Try.underlying3 Try.underlying59 (zRw _) hh
  have hm : rwm x h = none := by unfold rwm; rw [hx]; rfl
  rw [hm] at hr
  simp only [Option.getD_none, Option.isSome_none] at hr
  obtain ⟨c0, f0, s0⟩ := hin.blk.facts
  clear hin hm hx
  go_enter Try.func13, Try.ntmps13
  go_wp2
  refine bodyPost_ret (v := .tuple #[(.agg #[.int .i64 0, .int .i64 0, .int .i64 0]), .int .i64 14]) (by simp [results, Try.results13, go_sem]) rfl ?_
  exact ⟨rfl, by (repeat (first | (with_reducible exact (Chg.refl _ _)) | (with_reducible refine Chg.alloc ?_ _) | (with_reducible refine Chg.drew ?_) | (with_reducible refine Chg.drewN ?_ _) | ((with_reducible refine Chg.setCell ?_ ?hp _); (case hp => (intro h; exfalso; simp at h; try omega)))))⟩

set_option maxRecDepth 100000 in
set_option maxHeartbeats 800000 in
theorem rget_some (b : Nat) (F : Nat → Prop) (x : List Rw) (k : Nat) (h : Int) (r : Rw) (w : World) (hs : RS w b F x k) (hh : (Lit.int .i64 h).wf = true) (hx : fnd x h = some r) :
    Calls Try.prog 13 #[.pointer (some ⟨b, 0, none⟩), .int .i64 h] w fun e w' => e = .returned (.tuple #[(.agg #[.int .i64 r.house, .int .i64 r.rate, .int .i64 r.due]), .int .i64 0]) ∧ Grew w w' := by
  obtain ⟨R, T, qb, l, A, c, M, added, hin, -⟩ := hs
  have hr := (hin.grew ((Chg.refl _ w).alloc (.cells #[.int .i64 0, .int .i64 0, .int .i64 0] 30))).rows.look_ok (t := 59) kInt Try.underlying3 Try.underlying59 (zRw _) hh
  have hm : rwm x h = some (.agg #[.int .i64 r.house, .int .i64 r.rate, .int .i64 r.due]) := by unfold rwm; rw [hx]; rfl
  rw [hm] at hr
  simp only [Option.getD_some, Option.isSome_some] at hr
  obtain ⟨c0, f0, s0⟩ := hin.blk.facts
  clear hin hm hx
  go_enter Try.func13, Try.ntmps13
  go_wp2
  refine bodyPost_ret (v := .tuple #[(.agg #[.int .i64 r.house, .int .i64 r.rate, .int .i64 r.due]), .int .i64 0]) (by simp [results, Try.results13, go_sem]) rfl ?_
  exact ⟨rfl, by (repeat (first | (with_reducible exact (Chg.refl _ _)) | (with_reducible refine Chg.alloc ?_ _) | (with_reducible refine Chg.drew ?_) | (with_reducible refine Chg.drewN ?_ _) | ((with_reducible refine Chg.setCell ?_ ?hp _); (case hp => (intro h; exfalso; simp at h; try omega)))))⟩

theorem rlen_any (b : Nat) (F : Nat → Prop) (x : List Rw) (k : Nat) (w : World) (hs : RS w b F x k) :
    Calls Try.prog 25 #[.pointer (some ⟨b, 0, none⟩)] w fun e w' => e = .returned (.int .i64 x.length) ∧ w = w' := by
  obtain ⟨R, T, qb, l, A, c, M, added, hin, -⟩ := hs
  have hr := hin.rows.len Try.underlying59 3
  obtain ⟨c0, f0, s0⟩ := hin.blk.facts
  clear hin
  go_enter Try.func25, Try.ntmps25
  go_wp2
  go_ret
  exact ⟨rfl, rfl⟩

end Go.Proofs.Ytjpkpckgkhbfpaa
