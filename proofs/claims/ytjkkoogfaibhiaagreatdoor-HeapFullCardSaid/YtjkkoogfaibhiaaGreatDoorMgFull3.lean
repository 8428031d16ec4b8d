/- Texts 3 of 8 that the proof of Full stands on. -/
import Derived.Test.YtjkkoogfaibhiaaGreatDoorMgFull2
import Derived.Sort.LoopGhostIn
import Derived.BigGuardIn
import Derived.Lib.AppendZerosOnto
set_option linter.unusedSimpArgs false
set_option linter.unusedVariables false

/- A new disk. -/
namespace Go.Proofs.YtjkkoogfaibhiaaGreatDoor
open Go.RowKit Go.Maps

theorem make_bytes (n : Nat) (w : World) (hn : n ≤ 1000000) : ∃ w', (Instr.makeSlice 34 (.int .i64 n) (.int .i64 n)).run Tryz.prog w = .ok (.slice (some ⟨w.heap.size, 0, none⟩) n n) w' ∧ w'.ownsRow w.heap.size 5 1 (.slice (some ⟨w.heap.size, 0, none⟩) n n) n (bv (List.replicate n 0)) ∧ Grew w w' ∧ w'.heap.size = w.heap.size + 1 := by
  obtain ⟨i0, hi0, hz0, hz1, hz2⟩ := info_parts u8Info
  have hr := run_makeSlice (P := Tryz.prog) w 34 5 i0 (.int .u8 0) Tryz.underlying34 hi0 hz0 .i64 .i64 n n (by omega) (by omega) (by rw [hz1]; simp; omega) (by rw [hz2]; omega) (by omega)
  obtain ⟨w3, hr3, hown3, hg3⟩ := run_make_full (P := Tryz.prog) w w.heap.size 34 5 i0 (.int .u8 0) 1 Tryz.underlying34 hi0 hz0 hz1 .i64 .i64 n (by rw [hz2]; omega) (by simp only [maxLen]; omega) (Nat.le_refl _)
  rw [hr3] at hr
  injection hr with hr1 hr2
  refine ⟨w3, hr3, ?_, (Chg.refl NoF w).grown hg3 (fun j hj _ => by cases hj), by rw [hr2]; simp⟩
  have := hown3
  rw [show (Value.int .u8 0).cells = #[.int .u8 0] from rfl, Nat.mul_one, toList_madeCells_one] at this
  simpa [bv] using this

theorem rowInfo : (Tryz.prog.info? 34).map (fun i => (i.zero, i.size, i.bytes)) = some (some (.slice none 0 0), 1, 24) := by kernel_rfl

/-- A disk of k sectors, on the way. -/
structure NewJ (w wr : World) (d sz k : Nat) (A : Option Addr) (c M : Nat) (vs : List Value) : Prop where
  blk : Blk wr d 96 #[.int .i64 sz, .slice A k c, .map (some M), .bool false, .int .i64 0, .bool false, .int .i64 0]
  row : wr.ownsRow w.heap.size 34 1 (.slice A k c) k vs
  map : IMap Tryz.prog 3 wr M (fun _ => none) 0
  dat : ∀ i, i < k → ∃ v, vs[i]? = some v ∧ BRow wr (fun j => w.heap.size ≤ j ∧ j < wr.heap.size) v (List.replicate sz 0)
  grew : Grew w wr
  new : w.heap.size ≤ d ∧ w.heap.size ≤ M ∧ M < wr.heap.size

theorem NewJ.more {w wr w3 W4 w5 w6 : World} {d sz k c M g cap : Nat} {A : Option Addr} {vs : List Value} (h : NewJ w wr d sz k A c M vs) (hm : w3.ownsRow wr.heap.size 5 1 (.slice (some ⟨wr.heap.size, 0, none⟩) sz sz) sz (bv (List.replicate sz 0))) (hg3 : Grew wr w3) (hg34 : Grew w3 W4) (hg4 : Grew wr W4)
    (ho : w5.ownsRow w.heap.size 34 1 (.slice (some ⟨g, 0, none⟩) (k + 1) cap) (k + 1) (vs ++ [.slice (some ⟨wr.heap.size, 0, none⟩) sz sz])) (hg5 : W4.grownBy w5 (Value.slice A k c).ownBlock) (hne : d ≠ g ∧ ∀ j, (Value.slice A k c).ownBlock = some j → j ≠ d)
    (hW : w5.setCell ⟨d, 1, none⟩ (.slice (some ⟨g, 0, none⟩) (k + 1) cap) = w6) : NewJ w w6 d sz (k + 1) (some ⟨g, 0, none⟩) cap M (vs ++ [.slice (some ⟨wr.heap.size, 0, none⟩) sz sz]) := by
  have hc56 : Chg (fun j => j = d) w5 w6 := hW ▸ (Chg.refl (fun j => j = d) w5).setCell (p := ⟨d, 1, none⟩) (fun _ => rfl) _
  have hc4 : Chg (fun j => some j = (Value.slice A k c).ownBlock ∨ j = d) W4 w6 := Chg.trans ((Chg.refl (fun j => some j = (Value.slice A k c).ownBlock ∨ j = d) W4).grown hg5 fun j hj _ => .inl hj.symm) hc56 fun j _ e => .inr e
  have hc : Chg (fun j => some j = (Value.slice A k c).ownBlock ∨ j = d) wr w6 := hg4.then hc4
  have hnB : ∀ {u : World}, Grew wr u → ∀ j, (some j = (Value.slice A k c).ownBlock ∨ j = d) → NotB u j := fun hg j hj => by
    rcases hj with e | rfl
    · exact own_notB (own_grew h.row hg) (by decide) e.symm
    · exact (h.blk.grew hg).notB (by decide)
  have hb5 : Blk w5 d 96 #[.int .i64 sz, .slice A k c, .map (some M), .bool false, .int .i64 0, .bool false, .int .i64 0] := (h.blk.grew hg4).grown hg5 (fun e => hne.2 _ e.symm rfl)
  have hsz := h.grew.size
  have hszc := hc.size
  have hvl : vs.length = k := by have := h.row.1; simpa using this
  refine ⟨?_, ?_, h.map.chg hc ?_, fun i hi => ?_, ?_, h.new.1, h.new.2.1, Nat.lt_of_lt_of_le h.new.2.2 hszc⟩
  · subst hW
    have := hb5.put 1 (.slice (some ⟨g, 0, none⟩) (k + 1) cap)
    simpa using this
  · exact own_chg ho hc56 fun j hj e => by simp [Value.ownBlock] at hj; omega
  · rintro (e | e)
    · rcases h.row.2 with ⟨e1, _⟩ | ⟨g', cp, cr, e1, _, hb, _⟩
      · rw [e1] at e; simp [Value.ownBlock] at e
      · have : M = g' := by rw [e1] at e; simpa [Value.ownBlock] using e
        subst this
        obtain ⟨E, ⟨es, cl, hm', -⟩, -⟩ := h.map
        rw [hb] at hm'
        cases hm'
    · exact imap_ne h.map h.blk e
  · by_cases hik : i < k
    · obtain ⟨v, h1, h2⟩ := h.dat i hik
      exact ⟨v, by rw [List.getElem?_append_left (by omega)]; exact h1, (h2.past hc (hnB (Chg.refl _ _))).mono fun j hj => ⟨hj.1, by omega⟩⟩
    · obtain rfl : i = k := by omega
      refine ⟨.slice (some ⟨wr.heap.size, 0, none⟩) sz sz, by rw [List.getElem?_append_right (by omega), hvl]; simp, ?_, fun j hj => ?_⟩
      · have h3 : BRow w3 (fun _ => True) (.slice (some ⟨wr.heap.size, 0, none⟩) sz sz) (List.replicate sz 0) := ⟨by have := own_base hm (Nat.zero_le _); simpa using this, fun _ _ => trivial⟩
        exact (h3.past (hg34.then hc4) (hnB hg3)).1
      · have : j = wr.heap.size := by simp [Value.ownBlock] at hj; omega
        subst this
        have := (hm.lt wr.heap.size rfl).2
        have := hg34.size
        have := hc4.size
        exact ⟨hsz, by omega⟩
  · refine Chg.mono (h.grew.then hc) fun i hi e => ?_
    rcases e with e | e
    · have := (h.row.lt i e.symm).1; omega
    · have := h.new.1; omega

set_option maxRecDepth 100000 in
set_option maxHeartbeats 3200000 in
theorem dnew_any (n sz : Nat) (w : World) (h1 : 1 ≤ n) (h2 : n ≤ 4096) (h3 : 16 ≤ sz) (h4 : sz ≤ 4096) :
    Calls Tryz.prog 24 #[.int .i64 n, .int .i64 sz] w fun e w' => ∃ d F, e = .returned (.pointer (some ⟨d, 0, none⟩)) ∧ DS w' d F ⟨n, sz, fun _ => List.replicate sz 0, fun _ => none, false, 0, false, 0, d⟩ ∧ Grew w w' ∧ ∀ j, F j → w.heap.size ≤ j := by
  obtain ⟨i0, hi0, hz0, hz1, hz2⟩ := info_parts rowInfo
  have qm : ∀ u : World, (Instr.makeMap 93 none).run Tryz.prog u = .ok (.map (some u.heap.size)) (u.alloc (.map #[] 0)) := fun u => run_makeMap _ u
  have a1 : decide ((n : Int) < 1) = false := decide_eq_false (by omega)
  have a2 : decide ((4096 : Int) < n) = false := decide_eq_false (by omega)
  have a3 : decide ((sz : Int) < 16) = false := decide_eq_false (by omega)
  have a4 : decide ((4096 : Int) < sz) = false := decide_eq_false (by omega)
  obtain ⟨d, hd⟩ : ∃ d, w.heap.size + 1 = d := ⟨_, rfl⟩
  obtain ⟨W1, hW1⟩ : ∃ W1, (w.alloc (.map #[] 0)).alloc (.cells #[.int .i64 sz, .slice none 0 0, .map (some w.heap.size), .bool false, .int .i64 0, .bool false, .int .i64 0] 96) = W1 := ⟨_, rfl⟩
  have HJ0 := Lib.hid (show NewJ w W1 d sz 0 none 0 w.heap.size [] from hW1 ▸ hd ▸ ⟨by have := Blk.new (w.alloc (.map #[] 0)) 96 #[.int .i64 sz, .slice none 0 0, .map (some w.heap.size), .bool false, .int .i64 0, .bool false, .int .i64 0]; simpa using this, World.ownsRow_nil _ _ _ _, (IMap.made _ _ _).grew ((Chg.refl _ _).alloc _), fun i hi => by omega, ((Chg.refl _ _).alloc _).alloc _, by simp; omega⟩)
  have HW := Lib.hid (And.intro hW1 hd)
  clear hW1 hd
  go_enter Tryz.func24, Tryz.ntmps24
  go_wp2
  rw [HW.out.1, HW.out.2]
  go_loopw [25] (fun i wr => ∃ (k : Nat) (A : Option Addr) (c M : Nat) (vs : List Value), k ≤ n ∧ i = .int .i64 k ∧ NewJ w wr d sz k A c M vs) (fun i _ => n - (intOf i).toNat)
  case atStart => exact ⟨0, none, 0, _, [], Nat.zero_le _, rfl, HJ0.out⟩
  case round =>
    obtain ⟨k, A, c, M, vs, hk, rfl, hJ⟩ := hrel
    have HN := Lib.hid hJ
    obtain ⟨c0, f0, s0⟩ := hJ.blk.facts
    clear hJ
    by_cases hlt : k < n
    · have hvl : vs.length = k := by have := HN.out.row.1; simpa using this
      go_wp2
      obtain ⟨w3, hr3, ho3, hg3, hz3⟩ := make_bytes sz wr.drew (by omega)
      have HM := Lib.hid (And.intro ho3 (show Grew wr w3 from Grew.trans ((Chg.refl NoF wr).drew) hg3))
      have hz3' : w3.heap.size = wr.heap.size + 1 := by simpa using hz3
      have hr3' : (Instr.makeSlice 34 (.int .i64 sz) (.int .i64 sz)).run Tryz.prog wr.drew = .ok (.slice (some ⟨wr.heap.size, 0, none⟩) sz sz) w3 := by simpa using hr3
      have hnc : (w3.alloc (.cells #[.slice (some ⟨wr.heap.size, 0, none⟩) sz sz] 34)).cell? ⟨wr.heap.size + 1, 0 + 0, none⟩ = some (.slice (some ⟨wr.heap.size, 0, none⟩) sz sz) := by rw [← hz3']; exact ((Blk.new w3 34 #[.slice (some ⟨wr.heap.size, 0, none⟩) sz sz]).cell 0).trans rfl
      have HG34 := Lib.hid (show Grew wr (w3.alloc (.cells #[.slice (some ⟨wr.heap.size, 0, none⟩) sz sz] 34)) from HM.out.2.alloc _)
      have HS34 := Lib.hid (show Grew w3 (w3.alloc (.cells #[.slice (some ⟨wr.heap.size, 0, none⟩) sz sz] 34)) from (Chg.refl _ _).alloc _)
      have HOw := Lib.hid (own_grew HN.out.row HG34.out)
      have c01 := c0 1
      simp only [List.getElem?_toArray, List.getElem?_cons_zero, List.getElem?_cons_succ] at c01
      have c31 := (HM.out.2.cell (p := ⟨d, 1, none⟩) s0 id).trans c01
      have s3 := Nat.lt_of_lt_of_le s0 HM.out.2.size
      clear ho3 hg3 hr3 hz3 c0 f0
      refine wp_region_held_drew (S := fun _ => True) (by kernel_rfl) trivial (fun _ => ?_)
      refine wpAnyH_take (i := 0) (v := ?_) rfl (by kernel_rfl) (by kernel_rfl) (by kernel_rfl) (fun _ _ _ h => h) (Or.inl ⟨by rfl, ?_⟩) trivial ?_
      rotate_left
      · (intro w hSw; (try dsimp only at hSw); go_simp) <;> with_reducible rfl
      (try simp only [Act.put, List.setIfInBounds_toArray, List.set_cons_zero, List.set_cons_succ])
      refine wpAnyH_take (i := 1) (v := ?_) rfl (by kernel_rfl) (by kernel_rfl) (by kernel_rfl) (fun _ _ _ h => h) (Or.inl ⟨by rfl, ?_⟩) trivial ?_
      rotate_left
      · (intro w hSw; (try dsimp only at hSw); go_simp) <;> with_reducible rfl
      (try simp only [Act.put, List.setIfInBounds_toArray, List.set_cons_zero, List.set_cons_succ])
      refine wpAnyH_take (i := 2) (v := ?_) rfl (by kernel_rfl) (by kernel_rfl) (by kernel_rfl) (fun _ _ _ h => h) (Or.inl ⟨by rfl, ?_⟩) trivial ?_
      rotate_left
      · (intro w hSw; (try dsimp only at hSw); go_simp) <;> with_reducible rfl
      (try simp only [Act.put, List.setIfInBounds_toArray, List.set_cons_zero, List.set_cons_succ])
      refine wpAnyH_take (i := 3) (v := ?_) rfl (by kernel_rfl) (by kernel_rfl) (by kernel_rfl) (fun _ _ _ h => h) (Or.inl ⟨by rfl, ?_⟩) trivial ?_
      rotate_left
      · (intro w hSw; (try dsimp only at hSw); go_simp) <;> with_reducible rfl
      (try simp only [Act.put, List.setIfInBounds_toArray, List.set_cons_zero, List.set_cons_succ])
      refine wpAnyH_take (i := 5) (v := ?_) rfl (by kernel_rfl) (by kernel_rfl) (by kernel_rfl) (fun _ _ _ h => h) (Or.inl ⟨by rfl, ?_⟩) trivial ?_
      rotate_left
      · (intro w hSw; (try dsimp only at hSw); go_simp) <;> with_reducible rfl
      (try simp only [Act.put, List.setIfInBounds_toArray, List.set_cons_zero, List.set_cons_succ])
      refine wpAnyH_ready (rs := [4, 6]) (by kernel_rfl) (by simp) ?_
      refine (AllReadyH.cons rfl (fun K hK => ?_) (AllReadyH.cons rfl (fun K hK => ?_) AllReadyH.nil))
      · go_simp
        refine hK.out _ _ trivial (fun _ => ?_)
        clear hK K
        (try simp only [Act.put, List.setIfInBounds_toArray, List.set_cons_zero, List.set_cons_succ])
        refine wpAnyH_ready (rs := [6]) (by kernel_rfl) (by simp) ?_
        refine (AllReadyH.cons rfl (fun K hK => ?_) AllReadyH.nil)
        · go_simp
          refine hK.out _ _ trivial (fun _ => ?_)
          clear hK K
          (try simp only [Act.put, List.setIfInBounds_toArray, List.set_cons_zero, List.set_cons_succ])
          refine wpAnyH_ready (rs := [7]) (by kernel_rfl) (by simp) ?_
          refine (AllReadyH.cons rfl (fun K hK => ?_) AllReadyH.nil)
          · go_simp
            refine hK.out _ _ trivial (fun _ => ?_)
            clear hK K
            (try simp only [Act.put, List.setIfInBounds_toArray, List.set_cons_zero, List.set_cons_succ])
            refine wpAnyH_ready (rs := [8]) (by kernel_rfl) (by simp) ?_
            refine (AllReadyH.cons rfl (fun K hK => ?_) AllReadyH.nil)
            · refine step_append_lies _ (by rfl) _ _ _ (by rfl) w.heap.size 34 i0 _ 1 24 Tryz.underlying94 hi0 hz0 hz1 hz2 rfl (by omega) (.slice A k c) k vs (by rfl) HOw.out ⟨wr.heap.size + 1, 0, none⟩ 1 1 [.slice (some ⟨wr.heap.size, 0, none⟩) sz sz] (by rfl) (by rfl) (by intro j u hu; cases j with | zero => rw [Addr.add_lit]; cases hu; exact hnc | succ j => simp at hu) (by simp [Value.oneCell']) (by omega) (by simp only [maxLen]; omega) (by omega) (by have := HN.out.grew.size; simp [hz3']; omega) (wr.heap.size + 1 + 1) (by simp [hz3']) ?_
              intro g cap w5 ho5 hg5 hlie hlt5
              have hne : d ≠ g ∧ ∀ j, (Value.slice A k c).ownBlock = some j → j ≠ d := by
                refine ⟨fun e => ?_, fun j hj e => own_blk_ne (own_grew HN.out.row HG34.out) (HN.out.blk.grew HG34.out) (by decide) (e ▸ hj)⟩
                rcases hlie with h | h
                · exact own_blk_ne (own_grew HN.out.row HG34.out) (HN.out.blk.grew HG34.out) (by decide) (e ▸ h)
                · have := HN.out.blk.lt; omega
              have HO5 := Lib.hid (And.intro ho5 (And.intro hg5 hne))
              have HB5 := Lib.hid (show Blk w5 d 96 #[.int .i64 sz, .slice A k c, .map (some M), .bool false, .int .i64 0, .bool false, .int .i64 0] from (HN.out.blk.grew HG34.out).grown hg5 (fun e => hne.2 _ e.symm rfl))
              have f5 := HB5.out.frozen 1
              have c5 := HB5.out.cell 1
              have s5 := HB5.out.lt
              clear ho5 hg5 hlie hne
              refine hK.out _ _ trivial (fun _ => ?_)
              clear hK K
              (try simp only [Act.put, List.setIfInBounds_toArray, List.set_cons_zero, List.set_cons_succ])
              refine wpAnyH_take (i := 9) (v := ?_) rfl (by kernel_rfl) (by kernel_rfl) (by kernel_rfl) (fun _ _ _ h => h) (Or.inl ⟨by rfl, ?_⟩) trivial ?_
              rotate_left
              · (intro w hSw; (try dsimp only at hSw); go_simp) <;> with_reducible rfl
              (try simp only [Act.put, List.setIfInBounds_toArray, List.set_cons_zero, List.set_cons_succ])
              refine wpAnyH_take (i := 10) (v := ?_) rfl (by kernel_rfl) (by kernel_rfl) (by kernel_rfl) (fun _ _ _ h => h) (Or.inl ⟨by rfl, ?_⟩) trivial ?_
              rotate_left
              · (intro w hSw; (try dsimp only at hSw); go_simp) <;> with_reducible rfl
              (try simp only [Act.put, List.setIfInBounds_toArray, List.set_cons_zero, List.set_cons_succ])
              refine wpAnyH_ready (rs := [11]) (by kernel_rfl) (by simp) ?_
              refine AllReadyH.cons rfl (fun K hK => ?_) AllReadyH.nil
              go_simp
              refine hK.out _ _ trivial (fun _ => ?_)
              clear hK K
              (try simp only [Act.put, List.setIfInBounds_toArray, List.set_cons_zero, List.set_cons_succ])
              refine wpAnyH_done (by kernel_rfl) ?_ _
              go_wp2
              exact ⟨⟨k + 1, _, cap, M, _, by omega, by simp, HN.out.more HM.out.1 HM.out.2 HS34.out HG34.out HO5.out.1 HO5.out.2.1 HO5.out.2.2 rfl⟩, by simp [intOf]; omega⟩
      · go_simp
        refine hK.out _ _ trivial (fun _ => ?_)
        clear hK K
        (try simp only [Act.put, List.setIfInBounds_toArray, List.set_cons_zero, List.set_cons_succ])
        refine wpAnyH_ready (rs := [4, 7]) (by kernel_rfl) (by simp) ?_
        refine (AllReadyH.cons rfl (fun K hK => ?_) (AllReadyH.cons rfl (fun K hK => ?_) AllReadyH.nil))
        · go_simp
          refine hK.out _ _ trivial (fun _ => ?_)
          clear hK K
          (try simp only [Act.put, List.setIfInBounds_toArray, List.set_cons_zero, List.set_cons_succ])
          refine wpAnyH_ready (rs := [7]) (by kernel_rfl) (by simp) ?_
          refine (AllReadyH.cons rfl (fun K hK => ?_) AllReadyH.nil)
          · go_simp
            refine hK.out _ _ trivial (fun _ => ?_)
            clear hK K
            (try simp only [Act.put, List.setIfInBounds_toArray, List.set_cons_zero, List.set_cons_succ])
            refine wpAnyH_ready (rs := [8]) (by kernel_rfl) (by simp) ?_
            refine (AllReadyH.cons rfl (fun K hK => ?_) AllReadyH.nil)
            · refine step_append_lies _ (by rfl) _ _ _ (by rfl) w.heap.size 34 i0 _ 1 24 Tryz.underlying94 hi0 hz0 hz1 hz2 rfl (by omega) (.slice A k c) k vs (by rfl) HOw.out ⟨wr.heap.size + 1, 0, none⟩ 1 1 [.slice (some ⟨wr.heap.size, 0, none⟩) sz sz] (by rfl) (by rfl) (by intro j u hu; cases j with | zero => rw [Addr.add_lit]; cases hu; exact hnc | succ j => simp at hu) (by simp [Value.oneCell']) (by omega) (by simp only [maxLen]; omega) (by omega) (by have := HN.out.grew.size; simp [hz3']; omega) (wr.heap.size + 1 + 1) (by simp [hz3']) ?_
              intro g cap w5 ho5 hg5 hlie hlt5
              have hne : d ≠ g ∧ ∀ j, (Value.slice A k c).ownBlock = some j → j ≠ d := by
                refine ⟨fun e => ?_, fun j hj e => own_blk_ne (own_grew HN.out.row HG34.out) (HN.out.blk.grew HG34.out) (by decide) (e ▸ hj)⟩
                rcases hlie with h | h
                · exact own_blk_ne (own_grew HN.out.row HG34.out) (HN.out.blk.grew HG34.out) (by decide) (e ▸ h)
                · have := HN.out.blk.lt; omega
              have HO5 := Lib.hid (And.intro ho5 (And.intro hg5 hne))
              have HB5 := Lib.hid (show Blk w5 d 96 #[.int .i64 sz, .slice A k c, .map (some M), .bool false, .int .i64 0, .bool false, .int .i64 0] from (HN.out.blk.grew HG34.out).grown hg5 (fun e => hne.2 _ e.symm rfl))
              have f5 := HB5.out.frozen 1
              have c5 := HB5.out.cell 1
              have s5 := HB5.out.lt
              clear ho5 hg5 hlie hne
              refine hK.out _ _ trivial (fun _ => ?_)
              clear hK K
              (try simp only [Act.put, List.setIfInBounds_toArray, List.set_cons_zero, List.set_cons_succ])
              refine wpAnyH_take (i := 9) (v := ?_) rfl (by kernel_rfl) (by kernel_rfl) (by kernel_rfl) (fun _ _ _ h => h) (Or.inl ⟨by rfl, ?_⟩) trivial ?_
              rotate_left
              · (intro w hSw; (try dsimp only at hSw); go_simp) <;> with_reducible rfl
              (try simp only [Act.put, List.setIfInBounds_toArray, List.set_cons_zero, List.set_cons_succ])
              refine wpAnyH_take (i := 10) (v := ?_) rfl (by kernel_rfl) (by kernel_rfl) (by kernel_rfl) (fun _ _ _ h => h) (Or.inl ⟨by rfl, ?_⟩) trivial ?_
              rotate_left
              · (intro w hSw; (try dsimp only at hSw); go_simp) <;> with_reducible rfl
              (try simp only [Act.put, List.setIfInBounds_toArray, List.set_cons_zero, List.set_cons_succ])
              refine wpAnyH_ready (rs := [11]) (by kernel_rfl) (by simp) ?_
              refine AllReadyH.cons rfl (fun K hK => ?_) AllReadyH.nil
              go_simp
              refine hK.out _ _ trivial (fun _ => ?_)
              clear hK K
              (try simp only [Act.put, List.setIfInBounds_toArray, List.set_cons_zero, List.set_cons_succ])
              refine wpAnyH_done (by kernel_rfl) ?_ _
              go_wp2
              exact ⟨⟨k + 1, _, cap, M, _, by omega, by simp, HN.out.more HM.out.1 HM.out.2 HS34.out HG34.out HO5.out.1 HO5.out.2.1 HO5.out.2.2 rfl⟩, by simp [intOf]; omega⟩
        · go_simp
          refine hK.out _ _ trivial (fun _ => ?_)
          clear hK K
          (try simp only [Act.put, List.setIfInBounds_toArray, List.set_cons_zero, List.set_cons_succ])
          refine wpAnyH_ready (rs := [4]) (by kernel_rfl) (by simp) ?_
          refine (AllReadyH.cons rfl (fun K hK => ?_) AllReadyH.nil)
          · go_simp
            refine hK.out _ _ trivial (fun _ => ?_)
            clear hK K
            (try simp only [Act.put, List.setIfInBounds_toArray, List.set_cons_zero, List.set_cons_succ])
            refine wpAnyH_ready (rs := [8]) (by kernel_rfl) (by simp) ?_
            refine (AllReadyH.cons rfl (fun K hK => ?_) AllReadyH.nil)
            · refine step_append_lies _ (by rfl) _ _ _ (by rfl) w.heap.size 34 i0 _ 1 24 Tryz.underlying94 hi0 hz0 hz1 hz2 rfl (by omega) (.slice A k c) k vs (by rfl) HOw.out ⟨wr.heap.size + 1, 0, none⟩ 1 1 [.slice (some ⟨wr.heap.size, 0, none⟩) sz sz] (by rfl) (by rfl) (by intro j u hu; cases j with | zero => rw [Addr.add_lit]; cases hu; exact hnc | succ j => simp at hu) (by simp [Value.oneCell']) (by omega) (by simp only [maxLen]; omega) (by omega) (by have := HN.out.grew.size; simp [hz3']; omega) (wr.heap.size + 1 + 1) (by simp [hz3']) ?_
              intro g cap w5 ho5 hg5 hlie hlt5
              have hne : d ≠ g ∧ ∀ j, (Value.slice A k c).ownBlock = some j → j ≠ d := by
                refine ⟨fun e => ?_, fun j hj e => own_blk_ne (own_grew HN.out.row HG34.out) (HN.out.blk.grew HG34.out) (by decide) (e ▸ hj)⟩
                rcases hlie with h | h
                · exact own_blk_ne (own_grew HN.out.row HG34.out) (HN.out.blk.grew HG34.out) (by decide) (e ▸ h)
                · have := HN.out.blk.lt; omega
              have HO5 := Lib.hid (And.intro ho5 (And.intro hg5 hne))
              have HB5 := Lib.hid (show Blk w5 d 96 #[.int .i64 sz, .slice A k c, .map (some M), .bool false, .int .i64 0, .bool false, .int .i64 0] from (HN.out.blk.grew HG34.out).grown hg5 (fun e => hne.2 _ e.symm rfl))
              have f5 := HB5.out.frozen 1
              have c5 := HB5.out.cell 1
              have s5 := HB5.out.lt
              clear ho5 hg5 hlie hne
              refine hK.out _ _ trivial (fun _ => ?_)
              clear hK K
              (try simp only [Act.put, List.setIfInBounds_toArray, List.set_cons_zero, List.set_cons_succ])
              refine wpAnyH_take (i := 9) (v := ?_) rfl (by kernel_rfl) (by kernel_rfl) (by kernel_rfl) (fun _ _ _ h => h) (Or.inl ⟨by rfl, ?_⟩) trivial ?_
              rotate_left
              · (intro w hSw; (try dsimp only at hSw); go_simp) <;> with_reducible rfl
              (try simp only [Act.put, List.setIfInBounds_toArray, List.set_cons_zero, List.set_cons_succ])
              refine wpAnyH_take (i := 10) (v := ?_) rfl (by kernel_rfl) (by kernel_rfl) (by kernel_rfl) (fun _ _ _ h => h) (Or.inl ⟨by rfl, ?_⟩) trivial ?_
              rotate_left
              · (intro w hSw; (try dsimp only at hSw); go_simp) <;> with_reducible rfl
              (try simp only [Act.put, List.setIfInBounds_toArray, List.set_cons_zero, List.set_cons_succ])
              refine wpAnyH_ready (rs := [11]) (by kernel_rfl) (by simp) ?_
              refine AllReadyH.cons rfl (fun K hK => ?_) AllReadyH.nil
              go_simp
              refine hK.out _ _ trivial (fun _ => ?_)
              clear hK K
              (try simp only [Act.put, List.setIfInBounds_toArray, List.set_cons_zero, List.set_cons_succ])
              refine wpAnyH_done (by kernel_rfl) ?_ _
              go_wp2
              exact ⟨⟨k + 1, _, cap, M, _, by omega, by simp, HN.out.more HM.out.1 HM.out.2 HS34.out HG34.out HO5.out.1 HO5.out.2.1 HO5.out.2.2 rfl⟩, by simp [intOf]; omega⟩
    · obtain rfl : k = n := by omega
      go_wp2
      go_ret
      have hN := HN.out
      refine ⟨d, fun j => w.heap.size ≤ j ∧ j < wr.heap.size, rfl, ⟨⟨A, c, M, 0, vs, fun _ => none, hN.blk, own_base hN.row (Nat.zero_le _), hN.map, fun i hi => ?_, fun _ _ => rfl, (fun i bs h => (by cases h)), ⟨⟨hN.new.1, hN.blk.lt⟩, ⟨hN.new.2.1, hN.new.2.2⟩, fun a ha => ?_⟩, ⟨h1, h2, h3, h4, Nat.zero_le _⟩, rfl⟩, fun j hj => hj.2⟩, hN.grew, fun j hj => hj.1⟩
      · obtain ⟨v, g1, g2⟩ := hN.dat i hi
        exact ⟨v, g1, g2, by simp⟩
      · subst ha
        obtain ⟨g, rfl, hg⟩ := own_some hN.row
        exact ⟨(hN.row.lt g rfl).1, hg⟩

end Go.Proofs.YtjkkoogfaibhiaaGreatDoor

/- The pager: Write with no room; Read. -/
namespace Go.Proofs.YtjkkoogfaibhiaaGreatDoor
open Go.RowKit Go.Maps

set_option maxRecDepth 100000 in
set_option maxHeartbeats 6400000 in
theorem gwrite_full (p i s : Nat) (nb : Nat) (Ab : Option Addr) (cb : Nat) (F : Nat → Prop) (X : Gp) (o : Cg) (w : World) (h : GS w p F X) (hr : X.rdy = 0) (hx : X.op = some o) (hz : X.Sz) (hi : X.table[i]? = some s) (hs : s ≠ 0) (hf : o.fresh s = false) (hsn : s < 4096) (hn : X.D.n ≤ 4096) (hm : X.room < (o.more (i / X.row) 1 : Nat)) (hb : nb = X.D.sz) :
    Calls Tryz.prog 36 #[.pointer (some ⟨p, 0, none⟩), .int .i64 i, .slice Ab nb cb] w fun e' w' => e' = .returned (.int .i64 21) ∧ Grew w w' := by
  have hrd := gready_any p F X w h
  rw [hr] at hrd
  have hus := gused_in p i s F X w h (by have := hz.tab.2; omega) hi
  rw [show (s != 0) = true from by simpa using hs] at hus
  have hsz := gsize_any p F X w h
  have hil : i < X.table.length := (List.getElem?_eq_some_iff.1 hi).1
  obtain ⟨k, hk⟩ : ∃ k, i / X.row = k := ⟨_, rfl⟩
  have HFL := Lib.hid h
  obtain ⟨L, d, b, A, ca, vp, vt, vo, h, hF⟩ := h
  obtain ⟨c0, f0, s0⟩ := h.blk.facts
  have ho := h.opn
  rw [hx] at ho
  obtain ⟨c, vw, M1, s1, vl, M2, s2, rfl, hi2⟩ := ho
  obtain ⟨g, ct, rfl, hgl, hlg, hce, hfe⟩ := h.entry hi
  have hdz := h.dsk.sml
  have htf := fun u (hu : Grew w u) => gtouch_full p i k 1 F X o u (HFL.out.grew hu) hx (by have := hz.free; omega) (by have := hz.row; omega) hk (by have := hz.tab.2; omega) (by omega) (by rw [← hk]; exact hm)
  have u1 : (0 : Int) ≤ (i : Int) := by omega
  have u2 : (i : Int) < (X.table.length : Int) := by omega
  have hlk : (Instr.lookup 58 (.map (some M1)) (.int .i64 s) false).run Tryz.prog w.drew = .ok (.bool false) w.drew := by
    have := (hi2.fr.grew ((Chg.refl _ w).drew)).look (t := 58) kInt Tryz.underlying3 Tryz.underlying58 (zBool w.drew) (i := (s : Int)) (wfInt (by omega) (by omega))
    rwa [mB_getD, hf] at this
  have hp4 : w.drew.cell? ⟨p, 4, none⟩ = some (.slice (some ⟨g, 0, none⟩) X.table.length ct) := (h.blk.drew).cell 4
  have hp6 : w.drew.cell? ⟨p, 6, none⟩ = some (.pointer (some ⟨c, 0, none⟩)) := (h.blk.drew).cell 6
  have hc1 : w.drew.cell? ⟨c, 1, none⟩ = some (.map (some M1)) := (hi2.blk.drew).cell 1
  have hgi : w.drew.cell? ⟨g, i, none⟩ = some (.int .i64 s) := hce
  have e3 : ((nb : Int) != (X.D.sz : Int)) = false := by simp [hb]
  have H := Lib.hid (And.intro hrd (And.intro hus (And.intro hsz htf)))
  clear h hr hrd hus hsz hx hz hi hs hf hi2 htf hF c0 f0 hce hm hk hb
  go_enter Tryz.func36, Tryz.ntmps36
  go_wp2_with (first
    | (go_at_call 43; (refine H.out.1.mono ?_); rintro e w1 ⟨rfl, rfl⟩)
    | (go_at_call 71; (refine H.out.2.1.mono ?_); rintro e w1 ⟨rfl, rfl⟩)
    | (go_at_call 26; (refine H.out.2.2.1.mono ?_); rintro e w1 ⟨rfl, rfl⟩))
  refine wp_region_held_drew (S := fun w' => w'.cell? ⟨p, 4, none⟩ = some (.slice (some ⟨g, 0, none⟩) X.table.length ct) ∧ w'.cell? ⟨p, 6, none⟩ = some (.pointer (some ⟨c, 0, none⟩)) ∧ w'.cell? ⟨c, 1, none⟩ = some (.map (some M1)) ∧ w'.cell? ⟨g, i, none⟩ = some (.int .i64 s) ∧ (Instr.lookup 58 (.map (some M1)) (.int .i64 s) false).run Tryz.prog w' = .ok (.bool false) w') (by kernel_rfl) ⟨hp4, hp6, hc1, hgi, hlk⟩ (fun hHeld => ?_)
  refine wpAnyH_take (i := 0) (v := ?_) rfl (by kernel_rfl) (by kernel_rfl) (by kernel_rfl) (fun _ _ _ h => h) (Or.inl ⟨by rfl, ?_⟩) hHeld ?_
  rotate_left
  · (intro w hSw; (try dsimp only at hSw); go_simp) <;> with_reducible rfl
  (try simp only [Act.put, List.setIfInBounds_toArray, List.set_cons_zero, List.set_cons_succ, List.getElem_toArray, List.getElem_cons_zero, List.getElem_cons_succ])
  refine wpAnyH_take (i := 1) (v := ?_) rfl (by kernel_rfl) (by kernel_rfl) (by kernel_rfl) (fun _ _ _ h => h) (Or.inl ⟨by rfl, ?_⟩) hHeld ?_
  rotate_left
  · (intro w hSw; (try dsimp only at hSw); go_simp) <;> with_reducible rfl
  (try simp only [Act.put, List.setIfInBounds_toArray, List.set_cons_zero, List.set_cons_succ, List.getElem_toArray, List.getElem_cons_zero, List.getElem_cons_succ])
  refine wpAnyH_take (i := 2) (v := ?_) rfl (by kernel_rfl) (by kernel_rfl) (by kernel_rfl) (fun _ _ _ h => h) (Or.inl ⟨by rfl, ?_⟩) hHeld ?_
  rotate_left
  · (intro w hSw; (try dsimp only at hSw); go_simp) <;> with_reducible rfl
  (try simp only [Act.put, List.setIfInBounds_toArray, List.set_cons_zero, List.set_cons_succ, List.getElem_toArray, List.getElem_cons_zero, List.getElem_cons_succ])
  refine wpAnyH_take (i := 3) (v := ?_) rfl (by kernel_rfl) (by kernel_rfl) (by kernel_rfl) (fun _ _ _ h => h) (Or.inl ⟨by rfl, ?_⟩) hHeld ?_
  rotate_left
  · (intro w hSw; (try dsimp only at hSw); go_simp) <;> with_reducible rfl
  (try simp only [Act.put, List.setIfInBounds_toArray, List.set_cons_zero, List.set_cons_succ, List.getElem_toArray, List.getElem_cons_zero, List.getElem_cons_succ])
  refine wpAnyH_take (i := 4) (v := ?_) rfl (by kernel_rfl) (by kernel_rfl) (by kernel_rfl) (fun _ _ _ h => h) (Or.inl ⟨by rfl, ?_⟩) hHeld ?_
  rotate_left
  · (intro w hSw; (try dsimp only at hSw); go_simp) <;> with_reducible rfl
  (try simp only [Act.put, List.setIfInBounds_toArray, List.set_cons_zero, List.set_cons_succ, List.getElem_toArray, List.getElem_cons_zero, List.getElem_cons_succ])
  refine wpAnyH_take (i := 5) (v := ?_) rfl (by kernel_rfl) (by kernel_rfl) (by kernel_rfl) (fun _ _ _ h => h) (Or.inl ⟨by rfl, ?_⟩) hHeld ?_
  rotate_left
  · (intro w hSw; (try dsimp only at hSw); go_simp) <;> with_reducible rfl
  (try simp only [Act.put, List.setIfInBounds_toArray, List.set_cons_zero, List.set_cons_succ, List.getElem_toArray, List.getElem_cons_zero, List.getElem_cons_succ])
  refine wpAnyH_take (i := 6) (v := ?_) rfl (by kernel_rfl) (by kernel_rfl) (by kernel_rfl) (fun _ _ _ h => h) (Or.inl ⟨by rfl, ?_⟩) hHeld ?_
  rotate_left
  · (intro w hSw; (try dsimp only at hSw); go_simp) <;> with_reducible rfl
  (try simp only [Act.put, List.setIfInBounds_toArray, List.set_cons_zero, List.set_cons_succ, List.getElem_toArray, List.getElem_cons_zero, List.getElem_cons_succ])
  refine wpAnyH_take (i := 7) (v := ?_) rfl (by kernel_rfl) (by kernel_rfl) (by kernel_rfl) (fun _ _ _ h => h) (Or.inl ⟨by rfl, ?_⟩) hHeld ?_
  rotate_left
  · (intro w hSw; (try dsimp only at hSw); go_simp) <;> with_reducible rfl
  (try simp only [Act.put, List.setIfInBounds_toArray, List.set_cons_zero, List.set_cons_succ, List.getElem_toArray, List.getElem_cons_zero, List.getElem_cons_succ])
  refine wpAnyH_take (i := 8) (v := ?_) rfl (by kernel_rfl) (by kernel_rfl) (by kernel_rfl) (fun _ _ _ h => h) (Or.inl ⟨by rfl, ?_⟩) hHeld ?_
  rotate_left
  · (intro w hSw; (try dsimp only at hSw); go_simp) <;> with_reducible rfl
  (try simp only [Act.put, List.setIfInBounds_toArray, List.set_cons_zero, List.set_cons_succ, List.getElem_toArray, List.getElem_cons_zero, List.getElem_cons_succ])
  refine wpAnyH_take (i := 9) (v := ?_) rfl (by kernel_rfl) (by kernel_rfl) (by kernel_rfl) (fun _ _ _ h => h) (Or.inl ⟨by rfl, ?_⟩) hHeld ?_
  rotate_left
  · (intro w hSw; (try dsimp only at hSw); go_simp) <;> with_reducible rfl
  (try simp only [Act.put, List.setIfInBounds_toArray, List.set_cons_zero, List.set_cons_succ, List.getElem_toArray, List.getElem_cons_zero, List.getElem_cons_succ])
  refine wpAnyH_take (i := 10) (v := ?_) rfl (by kernel_rfl) (by kernel_rfl) (by kernel_rfl) (fun _ _ _ h => h) (Or.inl ⟨by rfl, ?_⟩) hHeld ?_
  rotate_left
  · (intro w hSw; (try dsimp only at hSw); go_simp) <;> with_reducible rfl
  (try simp only [Act.put, List.setIfInBounds_toArray, List.set_cons_zero, List.set_cons_succ, List.getElem_toArray, List.getElem_cons_zero, List.getElem_cons_succ])
  refine wpAnyH_take (i := 11) (v := ?_) rfl (by kernel_rfl) (by kernel_rfl) (by kernel_rfl) (fun _ _ _ h => h) (Or.inl ⟨by rfl, ?_⟩) hHeld ?_
  rotate_left
  · (intro w hSw; (try dsimp only at hSw); go_simp) <;> with_reducible rfl
  (try simp only [Act.put, List.setIfInBounds_toArray, List.set_cons_zero, List.set_cons_succ, List.getElem_toArray, List.getElem_cons_zero, List.getElem_cons_succ])
  refine wpAnyH_take (i := 12) (v := ?_) rfl (by kernel_rfl) (by kernel_rfl) (by kernel_rfl) (fun _ _ _ h => h) (Or.inl ⟨by rfl, ?_⟩) hHeld ?_
  rotate_left
  · (intro w hSw; (try dsimp only at hSw); go_simp) <;> with_reducible rfl
  (try simp only [Act.put, List.setIfInBounds_toArray, List.set_cons_zero, List.set_cons_succ, List.getElem_toArray, List.getElem_cons_zero, List.getElem_cons_succ])
  refine wpAnyH_take (i := 13) (v := ?_) rfl (by kernel_rfl) (by kernel_rfl) (by kernel_rfl) (fun _ _ _ h => h) (Or.inl ⟨by rfl, ?_⟩) hHeld ?_
  rotate_left
  · (intro w hSw; (try dsimp only at hSw); go_simp) <;> with_reducible rfl
  (try simp only [Act.put, List.setIfInBounds_toArray, List.set_cons_zero, List.set_cons_succ, List.getElem_toArray, List.getElem_cons_zero, List.getElem_cons_succ])
  refine wpAnyH_take (i := 14) (v := ?_) rfl (by kernel_rfl) (by kernel_rfl) (by kernel_rfl) (fun _ _ _ h => h) (Or.inl ⟨by rfl, ?_⟩) hHeld ?_
  rotate_left
  · (intro w hSw; (try dsimp only at hSw); go_simp) <;> with_reducible rfl
  (try simp only [Act.put, List.setIfInBounds_toArray, List.set_cons_zero, List.set_cons_succ, List.getElem_toArray, List.getElem_cons_zero, List.getElem_cons_succ])
  refine wpAnyH_ready (rs := [15]) (by kernel_rfl) (by simp) ?_
  refine AllReadyH.cons rfl (fun K hK => ?_) AllReadyH.nil
  go_simp
  refine hK.out _ _ hHeld (fun _ => ?_)
  clear hK K
  (try simp only [Act.put, List.setIfInBounds_toArray, List.set_cons_zero, List.set_cons_succ, List.getElem_toArray, List.getElem_cons_zero, List.getElem_cons_succ])
  refine wpAnyH_done (by kernel_rfl) ?_ _
  clear hHeld hlk hp4 hp6 hc1 hgi hgl hlg hfe s0
  go_wp2_with fail
  refine (H.out.2.2.2 _ ((Chg.refl _ _).drew)).mono ?_
  rintro e w1 ⟨rfl, hg1⟩
  have HG1 := Lib.hid (Grew.trans ((Chg.refl NoF w).drew) hg1)
  clear hg1
  go_wp2_with fail
  go_ret
  exact ⟨rfl, HG1.out⟩

theorem gread_none (p : Nat) (i : Int) (F : Nat → Prop) (X : Gp) (w : World) (h : GS w p F X) (hd : X.down = false) (hl : X.table.length ≤ 4096) (hu : X.usedB i = false) :
    Calls Tryz.prog 92 #[.pointer (some ⟨p, 0, none⟩), .int .i64 i] w fun e' w' => e' = .returned (.tuple #[.slice none 0 0, .int .i64 14]) ∧ w = w' := by
  have hus := gused_any p i F X w h (by omega)
  rw [hu] at hus
  obtain ⟨L, d, b, A, ca, vp, vt, vo, h, hF⟩ := h
  obtain ⟨c0, f0, s0⟩ := h.blk.facts
  rw [hd] at c0
  have H := Lib.hid hus
  clear h hF hd hu hus
  go_enter Tryz.func92, Tryz.ntmps92
  go_wp2_with (go_at_call 71; (refine H.out.mono ?_); rintro e w1 ⟨rfl, rfl⟩)
  go_ret2
  exact ⟨rfl, rfl⟩

set_option maxRecDepth 100000 in
set_option maxHeartbeats 800000 in
theorem gread_one (p i : Nat) (F : Nat → Prop) (X : Gp) (w : World) (h : GS w p F X) (hd : X.down = false) (hl : X.table.length ≤ 4096) (hi : X.table[i]? = some 1) :
    Calls Tryz.prog 92 #[.pointer (some ⟨p, 0, none⟩), .int .i64 i] w fun e' w' => OwnOut w w' 5 1 X.D.sz (bv (List.replicate X.D.sz 0)) (fun A c => .tuple #[.slice A X.D.sz c, .int .i64 0]) e' := by
  have hus := gused_in p i 1 F X w h (by omega) hi
  have hsz := gsize_any p F X w h
  obtain ⟨L, d, b, A, ca, vp, vt, vo, h, hF⟩ := h
  obtain ⟨c0, f0, s0⟩ := h.blk.facts
  rw [hd] at c0
  obtain ⟨g, ct, rfl, hgl, hlg, hce, hfe⟩ := h.entry hi
  have hil : i < X.table.length := (List.getElem?_eq_some_iff.1 hi).1
  have hdz := h.dsk.sml
  have u1 : (0 : Int) ≤ (i : Int) := by omega
  have u2 : (i : Int) < (X.table.length : Int) := by omega
  obtain ⟨w3, hr3, ho3, hg3, hz3⟩ := make_bytes X.D.sz w (by omega)
  have H := Lib.hid (And.intro hus (And.intro hsz (And.intro ho3 hg3)))
  clear h hF hd hus hsz ho3 hg3 hz3 hi
  go_enter Tryz.func92, Tryz.ntmps92
  go_wp2_with (first
    | (go_at_call 71; (refine H.out.1.mono ?_); rintro e w1 ⟨rfl, rfl⟩)
    | (go_at_call 26; (refine H.out.2.1.mono ?_); rintro e w1 ⟨rfl, rfl⟩))
  go_ret2
  exact OwnOut.mk _ _ rfl H.out.2.2.1 H.out.2.2.2

/-- What reading a page leaves. -/
def ReadOut (w w' : World) (p : Nat) (F : Nat → Prop) (X : Gp) (n : Nat) (xs : List Value) (e : Ending) : Prop :=
  ∃ A c, e = .returned (.tuple #[.slice A n c, .int .i64 0]) ∧ w'.ownsRow w.heap.size 5 1 (.slice A n c) n xs ∧ GS w' p F X ∧ Chg F w w' ∧ ∀ a, A = some a → ¬ F a.block

set_option maxRecDepth 100000 in
set_option maxHeartbeats 1600000 in
theorem gread_sec (p i s : Nat) (F : Nat → Prop) (X : Gp) (w : World) (h : GS w p F X) (hd : X.down = false) (hdd : X.D.down = false) (hl : X.table.length ≤ 4096) (hi : X.table[i]? = some s) (hs : 2 ≤ s) (hsn : s < X.D.n) :
    Calls Tryz.prog 92 #[.pointer (some ⟨p, 0, none⟩), .int .i64 i] w fun e' w' => ReadOut w w' p F X X.D.sz (bv (X.D.rd s)) e' := by
  have HGS := Lib.hid h
  have hus := gused_in p i s F X w h (by omega) hi
  rw [show (s != 0) = true from by simp; omega] at hus
  obtain ⟨L, d, b, A, ca, vp, vt, vo, h, hF⟩ := h
  obtain ⟨c0, f0, s0⟩ := h.blk.facts
  rw [hd] at c0
  obtain ⟨g, ct, rfl, hgl, hlg, hce, hfe⟩ := h.entry hi
  have hil : i < X.table.length := (List.getElem?_eq_some_iff.1 hi).1
  have u1 : (0 : Int) ≤ (i : Int) := by omega
  have u2 : (i : Int) < (X.table.length : Int) := by omega
  have e1 : ((s : Int) == 1) = false := by simp; omega
  have hp0 : w.drew.cell? ⟨p, 0, none⟩ = some (.pointer (some ⟨d, 0, none⟩)) := (h.blk.drew).cell 0
  have hp4 : w.drew.cell? ⟨p, 4, none⟩ = some (.slice (some ⟨g, 0, none⟩) X.table.length ct) := (h.blk.drew).cell 4
  have hgi : w.drew.cell? ⟨g, i, none⟩ = some (.int .i64 s) := hce
  have hdz := h.dsk.sml
  have hrd : Calls Tryz.prog 87 #[.pointer (some ⟨d, 0, none⟩), .int .i64 (s : Int)] w.drew fun e w2 => OwnOut w.drew w2 5 1 X.D.sz (bv (X.D.rd s)) (fun A c => .tuple #[.slice A X.D.sz c, .int .i64 0]) e := dread_ok d s _ X.D _ (h.dsk.grew ((Chg.refl _ _).drew)) hdd (by omega) (by omega)
  have H := Lib.hid (And.intro hus (And.intro hrd (And.intro h (And.intro hF hd))))
  clear h hF hd hus hrd hi
  go_enter Tryz.func92, Tryz.ntmps92
  go_wp2_with (go_at_call 71; (refine H.out.1.mono ?_); rintro e w1 ⟨rfl, rfl⟩)
  refine wp_region_held_drew (S := fun w' => w'.cell? ⟨p, 0, none⟩ = some (.pointer (some ⟨d, 0, none⟩)) ∧ w'.cell? ⟨p, 4, none⟩ = some (.slice (some ⟨g, 0, none⟩) X.table.length ct) ∧ w'.cell? ⟨g, i, none⟩ = some (.int .i64 s)) (by kernel_rfl) ⟨hp0, hp4, hgi⟩ (fun hHeld => ?_)
  refine wpAnyH_take (i := 0) (v := ?_) rfl (by kernel_rfl) (by kernel_rfl) (by kernel_rfl) (fun _ _ _ h => h) (Or.inl ⟨by rfl, ?_⟩) hHeld ?_
  rotate_left
  · (intro w hSw; (try dsimp only at hSw); go_simp) <;> with_reducible rfl
  (try simp only [Act.put, List.setIfInBounds_toArray, List.set_cons_zero, List.set_cons_succ, List.getElem_toArray, List.getElem_cons_zero, List.getElem_cons_succ])
  refine wpAnyH_take (i := 1) (v := ?_) rfl (by kernel_rfl) (by kernel_rfl) (by kernel_rfl) (fun _ _ _ h => h) (Or.inl ⟨by rfl, ?_⟩) hHeld ?_
  rotate_left
  · (intro w hSw; (try dsimp only at hSw); go_simp) <;> with_reducible rfl
  (try simp only [Act.put, List.setIfInBounds_toArray, List.set_cons_zero, List.set_cons_succ, List.getElem_toArray, List.getElem_cons_zero, List.getElem_cons_succ])
  refine wpAnyH_take (i := 2) (v := ?_) rfl (by kernel_rfl) (by kernel_rfl) (by kernel_rfl) (fun _ _ _ h => h) (Or.inl ⟨by rfl, ?_⟩) hHeld ?_
  rotate_left
  · (intro w hSw; (try dsimp only at hSw); go_simp) <;> with_reducible rfl
  (try simp only [Act.put, List.setIfInBounds_toArray, List.set_cons_zero, List.set_cons_succ, List.getElem_toArray, List.getElem_cons_zero, List.getElem_cons_succ])
  refine wpAnyH_take (i := 3) (v := ?_) rfl (by kernel_rfl) (by kernel_rfl) (by kernel_rfl) (fun _ _ _ h => h) (Or.inl ⟨by rfl, ?_⟩) hHeld ?_
  rotate_left
  · (intro w hSw; (try dsimp only at hSw); go_simp) <;> with_reducible rfl
  (try simp only [Act.put, List.setIfInBounds_toArray, List.set_cons_zero, List.set_cons_succ, List.getElem_toArray, List.getElem_cons_zero, List.getElem_cons_succ])
  refine wpAnyH_take (i := 4) (v := ?_) rfl (by kernel_rfl) (by kernel_rfl) (by kernel_rfl) (fun _ _ _ h => h) (Or.inl ⟨by rfl, ?_⟩) hHeld ?_
  rotate_left
  · (intro w hSw; (try dsimp only at hSw); go_simp) <;> with_reducible rfl
  (try simp only [Act.put, List.setIfInBounds_toArray, List.set_cons_zero, List.set_cons_succ, List.getElem_toArray, List.getElem_cons_zero, List.getElem_cons_succ])
  refine wpAnyH_take (i := 5) (v := ?_) rfl (by kernel_rfl) (by kernel_rfl) (by kernel_rfl) (fun _ _ _ h => h) (Or.inl ⟨by rfl, ?_⟩) hHeld ?_
  rotate_left
  · (intro w hSw; (try dsimp only at hSw); go_simp) <;> with_reducible rfl
  (try simp only [Act.put, List.setIfInBounds_toArray, List.set_cons_zero, List.set_cons_succ, List.getElem_toArray, List.getElem_cons_zero, List.getElem_cons_succ])
  refine wpAnyH_take (i := 6) (v := ?_) rfl (by kernel_rfl) (by kernel_rfl) (by kernel_rfl) (fun _ _ _ h => h) (Or.inl ⟨by rfl, ?_⟩) hHeld ?_
  rotate_left
  · (intro w hSw; (try dsimp only at hSw); go_simp) <;> with_reducible rfl
  (try simp only [Act.put, List.setIfInBounds_toArray, List.set_cons_zero, List.set_cons_succ, List.getElem_toArray, List.getElem_cons_zero, List.getElem_cons_succ])
  refine wpAnyH_take (i := 7) (v := ?_) rfl (by kernel_rfl) (by kernel_rfl) (by kernel_rfl) (fun _ _ _ h => h) (Or.inl ⟨by rfl, ?_⟩) hHeld ?_
  rotate_left
  · (intro w hSw; (try dsimp only at hSw); go_simp) <;> with_reducible rfl
  (try simp only [Act.put, List.setIfInBounds_toArray, List.set_cons_zero, List.set_cons_succ, List.getElem_toArray, List.getElem_cons_zero, List.getElem_cons_succ])
  refine wpAnyH_take (i := 8) (v := ?_) rfl (by kernel_rfl) (by kernel_rfl) (by kernel_rfl) (fun _ _ _ h => h) (Or.inl ⟨by rfl, ?_⟩) hHeld ?_
  rotate_left
  · (intro w hSw; (try dsimp only at hSw); go_simp) <;> with_reducible rfl
  (try simp only [Act.put, List.setIfInBounds_toArray, List.set_cons_zero, List.set_cons_succ, List.getElem_toArray, List.getElem_cons_zero, List.getElem_cons_succ])
  refine wpAnyH_take (i := 9) (v := ?_) rfl (by kernel_rfl) (by kernel_rfl) (by kernel_rfl) (fun _ _ _ h => h) (Or.inl ⟨by rfl, ?_⟩) hHeld ?_
  rotate_left
  · (intro w hSw; (try dsimp only at hSw); go_simp) <;> with_reducible rfl
  (try simp only [Act.put, List.setIfInBounds_toArray, List.set_cons_zero, List.set_cons_succ, List.getElem_toArray, List.getElem_cons_zero, List.getElem_cons_succ])
  refine wpAnyH_take (i := 10) (v := ?_) rfl (by kernel_rfl) (by kernel_rfl) (by kernel_rfl) (fun _ _ _ h => h) (Or.inl ⟨by rfl, ?_⟩) hHeld ?_
  rotate_left
  · (intro w hSw; (try dsimp only at hSw); go_simp) <;> with_reducible rfl
  (try simp only [Act.put, List.setIfInBounds_toArray, List.set_cons_zero, List.set_cons_succ, List.getElem_toArray, List.getElem_cons_zero, List.getElem_cons_succ])
  refine wpAnyH_ready (rs := [11]) (by kernel_rfl) (by simp) ?_
  refine AllReadyH.cons rfl (fun K hK => ?_) AllReadyH.nil
  go_simp
  refine H.out.2.1.mono ?_
  rintro e w3 ⟨A3, c3, rfl, ho3, hg3⟩
  have hHeld3 : w3.cell? ⟨p, 0, none⟩ = some (.pointer (some ⟨d, 0, none⟩)) ∧ w3.cell? ⟨p, 4, none⟩ = some (.slice (some ⟨g, 0, none⟩) X.table.length ct) ∧ w3.cell? ⟨g, i, none⟩ = some (.int .i64 s) :=
    ⟨(hg3.cell (p := ⟨p, 0, none⟩) s0 id).trans hp0, (hg3.cell (p := ⟨p, 4, none⟩) s0 id).trans hp4, (hg3.cell (p := ⟨g, i, none⟩) hgl id).trans hgi⟩
  have HR := Lib.hid (And.intro ho3 (Grew.trans ((Chg.refl NoF w).drew) hg3))
  clear ho3 hg3
  refine hK.out _ _ hHeld3 (fun _ => ?_)
  clear hK K
  (try simp only [Act.put, List.setIfInBounds_toArray, List.set_cons_zero, List.set_cons_succ, List.getElem_toArray, List.getElem_cons_zero, List.getElem_cons_succ])
  refine wpAnyH_take (i := 12) (v := ?_) rfl (by kernel_rfl) (by kernel_rfl) (by kernel_rfl) (fun _ _ _ h => h) (Or.inl ⟨by rfl, ?_⟩) hHeld3 ?_
  rotate_left
  · (intro w hSw; (try dsimp only at hSw); go_simp) <;> with_reducible rfl
  (try simp only [Act.put, List.setIfInBounds_toArray, List.set_cons_zero, List.set_cons_succ, List.getElem_toArray, List.getElem_cons_zero, List.getElem_cons_succ])
  refine wpAnyH_take (i := 13) (v := ?_) rfl (by kernel_rfl) (by kernel_rfl) (by kernel_rfl) (fun _ _ _ h => h) (Or.inl ⟨by rfl, ?_⟩) hHeld3 ?_
  rotate_left
  · (intro w hSw; (try dsimp only at hSw); go_simp) <;> with_reducible rfl
  (try simp only [Act.put, List.setIfInBounds_toArray, List.set_cons_zero, List.set_cons_succ, List.getElem_toArray, List.getElem_cons_zero, List.getElem_cons_succ])
  refine wpAnyH_take (i := 14) (v := ?_) rfl (by kernel_rfl) (by kernel_rfl) (by kernel_rfl) (fun _ _ _ h => h) (Or.inl ⟨by rfl, ?_⟩) hHeld3 ?_
  rotate_left
  · (intro w hSw; (try dsimp only at hSw); go_simp) <;> with_reducible rfl
  (try simp only [Act.put, List.setIfInBounds_toArray, List.set_cons_zero, List.set_cons_succ, List.getElem_toArray, List.getElem_cons_zero, List.getElem_cons_succ])
  refine wpAnyH_take (i := 15) (v := ?_) rfl (by kernel_rfl) (by kernel_rfl) (by kernel_rfl) (fun _ _ _ h => h) (Or.inl ⟨by rfl, ?_⟩) hHeld3 ?_
  rotate_left
  · (intro w hSw; (try dsimp only at hSw); go_simp) <;> with_reducible rfl
  (try simp only [Act.put, List.setIfInBounds_toArray, List.set_cons_zero, List.set_cons_succ, List.getElem_toArray, List.getElem_cons_zero, List.getElem_cons_succ])
  refine wpAnyH_ready (rs := [16]) (by kernel_rfl) (by simp) ?_
  refine AllReadyH.cons rfl (fun K hK => ?_) AllReadyH.nil
  go_simp
  refine hK.out _ _ hHeld3 (fun _ => ?_)
  clear hK K
  (try simp only [Act.put, List.setIfInBounds_toArray, List.set_cons_zero, List.set_cons_succ, List.getElem_toArray, List.getElem_cons_zero, List.getElem_cons_succ])
  refine wpAnyH_done (by kernel_rfl) ?_ _
  clear hHeld hHeld3 hp0 hp4 hgi c0 f0 s0 hgl hce hfe
  go_wp2_with fail
  refine (gnote_at p 0 _ _ (H.out.2.2.1.grew HR.out.2).blk (by show _ = some (Value.bool false); rw [← H.out.2.2.2.2]; rfl) rfl).mono ?_
  rintro e w4 ⟨rfl, hw4⟩
  have HW4 := Lib.hid hw4
  clear hw4
  go_wp2
  go_ret2
  have hG := H.out.2.2.1.grew HR.out.2
  have hfl := hG.flag false
  rw [HW4.out] at hfl
  have hc : Chg (fun j => L j = 1) w w4 := Grew.then HR.out.2 hfl.2.chg
  refine ⟨A3, c3, rfl, ?_, ⟨L, d, b, A, ca, vp, .slice (some ⟨g, 0, none⟩) X.table.length ct, vo, ?_, H.out.2.2.2.1⟩, hc.mono fun j _ e => (H.out.2.2.2.1 j).2 (by omega), fun a ha hf => ?_⟩
  · refine own_chg HR.out.1 hfl.2.chg fun j hj e => ?_
    have h1 := (HR.out.1.lt j hj).1
    have h2 := H.out.2.2.1.lt j (by omega)
    have h1' : w.heap.size ≤ j := h1
    omega
  · have e : ({ X with down := false } : Gp) = X := by rw [← H.out.2.2.2.2]
    rw [← e]
    exact hfl.1
  · subst ha
    have h1 := (HR.out.1.lt a.block rfl).1
    have h2 := H.out.2.2.1.lt a.block ((H.out.2.2.2.1 _).1 hf)
    have h1' : w.heap.size ≤ a.block := h1
    omega

end Go.Proofs.YtjkkoogfaibhiaaGreatDoor

/- The pager, as its pages are: Begin, Alloc, Write, Read. -/
namespace Go.Proofs.YtjkkoogfaibhiaaGreatDoor
open Go.RowKit Go.Maps

theorem setB_same {f : Nat → Bool} {k : Nat} (h : f k = true) : setB f k true = f := by
  funext j
  unfold setB
  by_cases e : j = k
  · subst e; rw [if_pos rfl, h]
  · rw [if_neg e]
section
variable {X : Gp} {o : Cg} {i j s : Nat} {bs : List Int}
theorem Gp.Ok.tcroom (h : X.Ok) (hx : X.op = some o) {k m : Nat} (hk : k < X.pages.length) (hm : (o.more k m : Nat) ≤ X.room) : cntN (setB X.tc k true) 64 + m ≤ cnt X.free := by
  have e : X.tc = o.touched := by simp only [Gp.tc, hx]
  have hr : X.room = (cnt X.free : Int) - (cntN o.touched 64 : Int) := by simp only [Gp.room, hx]
  rw [hr] at hm
  rw [e]
  unfold Cg.more at hm
  cases ht : o.touched k with
  | true => rw [ht] at hm; rw [setB_same ht]; simp at hm; omega
  | false =>
    rw [ht] at hm
    rw [cntN_yes _ (by have := h.inv.pg64; omega) ht]
    simp at hm
    omega
theorem Gp.Ok.tch (h : X.Ok) (hx : X.op = some o) (hi : i < X.table.length) {m : Nat} (hm : (o.more (i / X.row) m : Nat) ≤ X.room) :
    Inv X.D X.epoch X.pages X.table o.was X.free o.fresh o.left (setB o.touched (i / (X.D.sz / 2)) true) ∧ cntN (setB o.touched (i / (X.D.sz / 2)) true) 64 + m ≤ cnt X.free := by
  have hk := h.inv.part hi
  rw [h.row] at hm
  have hr := h.tcroom hx hk hm
  have hv := h.inv.tch hk (by omega)
  simp only [Gp.old, Gp.fr, Gp.lf, Gp.tc, hx] at hv hr
  exact ⟨hv, hr⟩
theorem Gp.view_was (hx : X.op = some o) : X.view.was = some (o.was.map (pk X.D fun _ => false)) := by simp [Gp.view, hx]
theorem Gp.Ok.alloc (h : X.Ok) (hx : X.op = some o) (hi : X.table[i]? = some 0) (hm : (o.more (i / X.row) 0 : Nat) ≤ X.room) : (X.alloc o i).Ok ∧ (X.alloc o i).view = X.view.put i .zero := by
  obtain ⟨h1, -⟩ := h.tch hx (List.getElem?_eq_some_iff.1 hi).1 hm
  have h2 := h1.zero (v := 1) hi (by omega) (by omega) (by simp [setB])
  have hr := h.row
  refine ⟨⟨?_, h.row, h.up⟩, ?_⟩
  · rw [← h.row] at h2
    exact h2
  · unfold Gp.view Rp.put Gp.alloc Gp.touch
    simp only [Gp.fr, Gp.tc, hx, Option.map_some, Rp.row]
    rw [List.map_set, show pk X.D o.fresh 1 = .zero from rfl, hr]
theorem pk_wr {D : Dk} {fr fr' : Nat → Bool} {j s : Nat} {bs : List Int} (hs : s ≠ j) (hf : fr' s = fr s) : pk (D.wr j bs) fr' s = pk D fr s := by
  unfold pk
  rw [Dk.wr_rd, if_neg hs, hf]
theorem Gp.Ok.fill (h : X.Ok) (hx : X.op = some o) (hi : X.table[i]? = some s) (hf : o.fresh s = false) (hj : X.free.getD j false = true) (hm : (o.more (i / X.row) 1 : Nat) ≤ X.room) (hb : ∀ x ∈ bs, 0 ≤ x ∧ x ≤ 255) :
    (X.fill o i s j bs).Ok ∧ (X.fill o i s j bs).view = X.view.put i (.new bs) := by
  obtain ⟨h1, h3⟩ := h.tch hx (List.getElem?_eq_some_iff.1 hi).1 hm
  obtain ⟨j1, j2, j3, j4, j5, j6⟩ := h1.free hj
  have h2 := (h1.write ⟨j2, j1, j3, j4⟩ hb).fill hi hf hj (by simp [setB, Dk.wr]) h3
  refine ⟨⟨?_, h.row, h.up⟩, ?_⟩
  · have e : (X.fill o i s j bs).tc = setB o.touched (i / (X.D.sz / 2)) true := by simp only [Gp.fill, Gp.tc, Cg.fill, h.row]
    rw [e]
    exact h2
  · unfold Gp.view Rp.put Gp.fill
    simp only [Gp.fr, Gp.tc, hx, Option.map_some, Rp.row, Cg.fill]
    have e1 : X.table.map (pk (X.D.wr j bs) (setB o.fresh j true)) = X.table.map (pk X.D o.fresh) := List.map_congr_left fun s hs => by
      obtain ⟨k, hk⟩ := List.mem_iff_getElem?.1 hs
      have hsj : s ≠ j := fun e => j6 k (e ▸ hk)
      exact pk_wr hsj (by simp [setB, hsj])
    have e2 : o.was.map (pk (X.D.wr j bs) fun _ => false) = o.was.map (pk X.D fun _ => false) := List.map_congr_left fun s hs => by
      obtain ⟨k, hk⟩ := List.mem_iff_getElem?.1 hs
      exact pk_wr (fun e => j4 k (e ▸ hk)) rfl
    have e3 : pk (X.D.wr j bs) (setB o.fresh j true) j = .new bs := by
      unfold pk
      rw [Dk.wr_rd, if_pos rfl, if_neg (by omega), if_neg (by omega)]
      simp [setB]
    rw [List.map_set, e1, e2, e3, h.row]
    rfl
theorem Gp.Ok.put (h : X.Ok) (hx : X.op = some o) (hi : X.table[i]? = some s) (hf : o.fresh s = true) (hb : ∀ x ∈ bs, 0 ≤ x ∧ x ≤ 255) : (X.put s bs).Ok ∧ (X.put s bs).view = X.view.put i (.new bs) := by
  have hv := h.inv
  simp only [Gp.old, Gp.fr, Gp.lf, Gp.tc, hx] at hv
  obtain ⟨j1, j2, j3, j4, -⟩ := hv.frr s hf
  have h2 := hv.write ⟨j2, j1, j3, j4⟩ hb
  have hil : i < X.table.length := (List.getElem?_eq_some_iff.1 hi).1
  have ht : o.touched (i / (X.D.sz / 2)) = true := hv.tcd i fun e => j4 i (e ▸ hi)
  refine ⟨⟨?_, h.row, h.up⟩, ?_⟩
  · simp only [Gp.put, Gp.old, Gp.fr, Gp.lf, Gp.tc, hx]
    exact h2
  · unfold Gp.view Rp.put Gp.put
    simp only [Gp.fr, Gp.tc, hx, Option.map_some, Rp.row]
    rw [setB_same ht]
    have e2 : o.was.map (pk (X.D.wr s bs) fun _ => false) = o.was.map (pk X.D fun _ => false) := List.map_congr_left fun q hq => by
      obtain ⟨k, hk⟩ := List.mem_iff_getElem?.1 hq
      exact pk_wr (fun e => j4 k (e ▸ hk)) rfl
    have e1 : X.table.map (pk (X.D.wr s bs) o.fresh) = (X.table.map (pk X.D o.fresh)).set i (.new bs) := by
      apply List.ext_getElem?
      intro k
      rw [set_at (by simpa using hil), List.getElem?_map, List.getElem?_map]
      by_cases e : k = i
      · subst e
        rw [if_pos rfl, hi]
        simp only [Option.map_some, Option.some.injEq]
        unfold pk
        rw [Dk.wr_rd, if_pos rfl, if_neg (by omega), if_neg (by omega), if_pos hf]
      · rw [if_neg e]
        cases hk : X.table[k]? with
        | none => rfl
        | some q =>
          simp only [Option.map_some, Option.some.injEq]
          exact pk_wr (fun e' => e (hv.jT k i q hk (e' ▸ hi) (by omega))) rfl
    rw [e1, e2]
    rfl
end

/-- A pager whose pages are these. -/
def GP (w : World) (p : Nat) (F : Nat → Prop) (x : Rp) : Prop := ∃ X, GS w p F X ∧ X.Ok ∧ X.view = x
def GPTo (w w' : World) (p : Nat) (F : Nat → Prop) (x : Rp) : Prop := To (fun w F => GP w p F x) w w' F
section
variable {w w' w2 : World} {p : Nat} {F : Nat → Prop} {X : Gp} {x : Rp}
theorem GP.chg {G : Nat → Prop} (h : GP w p F x) (hc : Chg G w w') (hG : ∀ j, F j → ¬ G j) (hG0 : ¬ G 0) : GP w' p F x := by
  obtain ⟨X, h1, h2⟩ := h
  exact ⟨X, h1.chg hc hG hG0, h2⟩
theorem GP.grew (h : GP w p F x) (hc : Grew w w') : GP w' p F x := h.chg hc (fun _ _ => id) id
theorem GP.lt (h : GP w p F x) : ∀ j, F j → j < w.heap.size := by
  obtain ⟨X, h1, -⟩ := h
  exact h1.lt
theorem GP.zero (h : GP w p F x) : ¬ F 0 := by
  obtain ⟨X, h1, -⟩ := h
  exact h1.zero
theorem GP.tab (h : GP w p F x) : TabAt 0 tab w := by
  obtain ⟨X, h1, -⟩ := h
  exact h1.tab
theorem GP.to (h : GP w p F x) (hc : Grew w w') : GPTo w w' p F x := To.of (h.grew hc) hc.chg
theorem GPTo.grew (h : GPTo w w' p F x) (hc : Grew w' w2) : GPTo w w2 p F x := To.grew h hc fun _ k => k.grew hc
theorem GTo.gp (h : GTo w w' p F X) (ho : X.Ok) (hv : X.view = x) : GPTo w w' p F x := To.imp h fun _ k => ⟨X, k, ho, hv⟩
theorem GP.szs (h : GP w p F x) : 8 ≤ x.n ∧ x.n ≤ 4096 ∧ 64 ≤ x.sz ∧ x.sz ≤ 4096 ∧ x.now.length = capN x.n x.sz ∧ x.now.length ≤ 4096 := by
  obtain ⟨X, -, h2, rfl⟩ := h
  have := h2.inv.sz
  have e : X.view.now.length = X.table.length := by simp [Gp.view]
  have h4 := h2.inv.tb4.1
  exact ⟨this.1, this.2.1, this.2.2.1, this.2.2.2, by rw [e]; exact h2.inv.lens.2.2.1, by rw [e]; exact h4⟩
end
/-- A page's entry. -/
theorem Gp.entry_no {X : Gp} {i : Nat} : X.view.now[i]? = some .no ↔ X.table[i]? = some 0 := by
  simp only [Gp.view, List.getElem?_map]
  cases h : X.table[i]? with
  | none => simp
  | some s =>
    simp only [Option.map_some, Option.some.injEq]
    constructor
    · intro e
      by_cases h0 : s = 0
      · exact h0
      · have := pk_used X.D X.fr s
        rw [e] at this
        simp [Pk.used, h0] at this
    · rintro rfl; rfl
theorem Gp.entry_used {X : Gp} {i : Nat} {c : Pk} (h : X.view.now[i]? = some c) (hu : c.used = true) : ∃ s, X.table[i]? = some s ∧ s ≠ 0 ∧ c = pk X.D X.fr s := by
  simp only [Gp.view, List.getElem?_map] at h
  cases ht : X.table[i]? with
  | none => rw [ht] at h; cases h
  | some s =>
    rw [ht] at h
    simp only [Option.map_some, Option.some.injEq] at h
    subst h
    rw [pk_used] at hu
    exact ⟨s, rfl, by simpa using hu, rfl⟩
theorem Gp.Ok.rdy {X : Gp} {o : Cg} (h : X.Ok) (hx : X.op = some o) : X.rdy = 0 := by
  unfold Gp.rdy
  rw [h.up.1, hx]
  rfl
theorem Gp.view_op {X : Gp} (h : X.view.was ≠ none) : ∃ o, X.op = some o := by
  cases hx : X.op with
  | none => simp [Gp.view, hx] at h
  | some o => exact ⟨o, rfl⟩
theorem Gp.more_need {X : Gp} {o : Cg} (h : X.Ok) (hx : X.op = some o) (i m : Nat) : o.more (i / X.row) m = X.view.need (i / X.view.row) m := by
  unfold Cg.more Rp.need Rp.row
  rw [h.row]
  simp only [Gp.view, Gp.tc, hx]

section
variable (p i : Nat) (F : Nat → Prop) (x : Rp) (w : World)
theorem gp_begin (h : GP w p F x) (ho : x.was = none) :
    Calls Tryz.prog 20 #[.pointer (some ⟨p, 0, none⟩)] w fun e' w' => e' = .returned (.int .i64 0) ∧ GPTo w w' p F x.begun := by
  obtain ⟨X, h1, h2, rfl⟩ := h
  have hx : X.op = none := by
    cases hx : X.op with
    | none => rfl
    | some o => simp [Gp.view, hx] at ho
  refine (gbegin_ok p F X w h1 h2.up.1 hx h2.inv.tb4.1).mono ?_
  rintro e w1 ⟨rfl, h3⟩
  refine ⟨rfl, h3.gp ⟨?_, h2.row, h2.up⟩ ?_⟩
  · have := h2.inv
    simp only [Gp.old, Gp.fr, Gp.lf, Gp.tc, hx] at this
    exact this
  · simp [Gp.view, Rp.begun, Gp.begun, Gp.fr, Gp.tc, hx]
theorem gp_alloc_none (h : GP w p F x) (ho : x.was ≠ none) (hf : ∀ c ∈ x.now, c ≠ .no) :
    Calls Tryz.prog 59 #[.pointer (some ⟨p, 0, none⟩)] w fun e' w' => e' = .returned (.tuple #[.int .i64 0, .int .i64 21]) ∧ w = w' := by
  obtain ⟨X, h1, h2, rfl⟩ := h
  obtain ⟨o, hx⟩ := Gp.view_op ho
  refine galloc_none p F X w h1 (h2.rdy hx) h2.inv.tb4.1 fun s hs => ?_
  rintro rfl
  exact hf .no (List.mem_map.2 ⟨0, hs, rfl⟩) rfl
theorem Gp.entry_before {X : Gp} {i : Nat} (hf : ∀ (k : Nat) c, k < i → X.view.now[k]? = some c → c ≠ .no) : ∀ (k s : Nat), k < i → X.table[k]? = some s → s ≠ 0 := by
  rintro k s hk hs rfl
  exact hf k .no hk (Gp.entry_no.2 hs) rfl
theorem gp_alloc_full (h : GP w p F x) (ho : x.was ≠ none) (hi : x.now[i]? = some .no) (hf : ∀ (k : Nat) c, k < i → x.now[k]? = some c → c ≠ .no) (hm : x.room < (x.need (i / x.row) 0 : Nat)) :
    Calls Tryz.prog 59 #[.pointer (some ⟨p, 0, none⟩)] w fun e' w' => e' = .returned (.tuple #[.int .i64 0, .int .i64 21]) ∧ Grew w w' := by
  obtain ⟨X, h1, h2, rfl⟩ := h
  obtain ⟨o, hx⟩ := Gp.view_op ho
  exact galloc_full p i F X o w h1 (h2.rdy hx) hx h2.sz h2.inv.sz.2.1 (Gp.entry_no.1 hi) (Gp.entry_before hf) (by rw [h2.room, Gp.more_need h2 hx]; exact hm)
theorem gp_alloc_ok (h : GP w p F x) (ho : x.was ≠ none) (hi : x.now[i]? = some .no) (hf : ∀ (k : Nat) c, k < i → x.now[k]? = some c → c ≠ .no) (hm : (x.need (i / x.row) 0 : Nat) ≤ x.room) :
    Calls Tryz.prog 59 #[.pointer (some ⟨p, 0, none⟩)] w fun e' w' => e' = .returned (.tuple #[.int .i64 i, .int .i64 0]) ∧ GPTo w w' p F (x.put i .zero) := by
  obtain ⟨X, h1, h2, rfl⟩ := h
  obtain ⟨o, hx⟩ := Gp.view_op ho
  have hm' : (o.more (i / X.row) 0 : Nat) ≤ X.room := by rw [h2.room, Gp.more_need h2 hx]; exact hm
  refine (galloc_ok p i F X o w h1 (h2.rdy hx) hx h2.sz h2.inv.sz.2.1 (Gp.entry_no.1 hi) (Gp.entry_before hf) hm').mono ?_
  rintro e w1 ⟨rfl, h3⟩
  have := h2.alloc hx (Gp.entry_no.1 hi) hm'
  exact ⟨rfl, h3.gp this.1 this.2⟩

variable (bs : List Int) (Ab : Option Addr) (cb : Nat)
theorem gp_write (c : Pk) (h : GP w p F x) (ho : x.was ≠ none) (hi : x.now[i]? = some c) (hu : c.used = true) (hm : c.isNew = true ∨ (x.need (i / x.row) 1 : Nat) ≤ x.room)
    (hb : bs.length = x.sz) (hby : ∀ q ∈ bs, 0 ≤ q ∧ q ≤ 255) (hA : Ab ≠ none) (hsl : Sl w 1 Ab bs.length (bv bs)) (hsF : ∀ a, Ab = some a → ¬ F a.block) :
    Calls Tryz.prog 36 #[.pointer (some ⟨p, 0, none⟩), .int .i64 i, .slice Ab bs.length cb] w fun e' w' => e' = .returned (.int .i64 0) ∧ GPTo w w' p F (x.put i (.new bs)) := by
  obtain ⟨X, h1, h2, rfl⟩ := h
  obtain ⟨o, hx⟩ := Gp.view_op ho
  obtain ⟨s, hs, h0, rfl⟩ := Gp.entry_used hi hu
  have hv := h2.inv
  simp only [Gp.old, Gp.fr, Gp.lf, Gp.tc, hx] at hv
  have hfr : X.fr = o.fresh := by simp only [Gp.fr, hx]
  rw [hfr, pk_isNew X.D o.fresh s fun e => (hv.frr s e).1] at hm
  cases hf : o.fresh s with
  | true =>
    have := h2.put (bs := bs) hx hs hf hby
    refine (gwrite_fresh p i s bs Ab cb F X o w h1 (h2.rdy hx) hx h2.sz hs h0 hf (hv.frr s hf).2.1 h2.up.2.1 h2.up.2.2 h2.up.1 hb hA hsl hsF).mono ?_
    rintro e w1 ⟨rfl, h3⟩
    exact ⟨rfl, h3.gp this.1 this.2⟩
  | false =>
    rw [hf] at hm
    have hm' : (o.more (i / X.row) 1 : Nat) ≤ X.room := by
      rw [h2.room, Gp.more_need h2 hx]
      exact hm.resolve_left (by simp)
    have hr : X.room = (cnt X.free : Int) - (cntN o.touched 64 : Int) := by simp only [Gp.room, hx]
    have hm1 : 1 ≤ o.more (i / X.row) 1 := by unfold Cg.more; omega
    obtain ⟨j, hj, -, hjt⟩ := take_there (fe := X.free) (by omega)
    have := h2.fill (bs := bs) hx hs hf hjt hm' hby
    have hfree := hv.free hjt
    have hsn : s ≤ 1 ∨ s < X.D.n := by
      by_cases e : s ≤ 1
      · exact .inl e
      · refine .inr ?_
        rcases hv.cur i s hs (by omega) with e1 | e1
        · rw [hf] at e1; cases e1
        · exact hv.rO i s e1
    refine (gwrite_new p i s j bs Ab cb F X o w h1 (h2.rdy hx) hx h2.sz hs h0 hf hsn hj hfree.2.2.2.2.1 (by have := hv.lfle; omega) hm' h2.up.2.1 h2.up.2.2 h2.up.1 hb hA hsl hsF).mono ?_
    rintro e w1 ⟨rfl, h3⟩
    exact ⟨rfl, h3.gp this.1 this.2⟩
theorem gp_write_full (nb : Nat) (c : Pk) (h : GP w p F x) (ho : x.was ≠ none) (hi : x.now[i]? = some c) (hu : c.used = true) (hn : c.isNew = false) (hm : x.room < (x.need (i / x.row) 1 : Nat)) (hb : nb = x.sz) :
    Calls Tryz.prog 36 #[.pointer (some ⟨p, 0, none⟩), .int .i64 i, .slice Ab nb cb] w fun e' w' => e' = .returned (.int .i64 21) ∧ Grew w w' := by
  obtain ⟨X, h1, h2, rfl⟩ := h
  obtain ⟨o, hx⟩ := Gp.view_op ho
  obtain ⟨s, hs, h0, rfl⟩ := Gp.entry_used hi hu
  have hv := h2.inv
  simp only [Gp.old, Gp.fr, Gp.lf, Gp.tc, hx] at hv
  have hfr : X.fr = o.fresh := by simp only [Gp.fr, hx]
  rw [hfr, pk_isNew X.D o.fresh s fun e => (hv.frr s e).1] at hn
  have hsz := hv.sz
  have hsn : s < 4096 := by
    by_cases e : s ≤ 1
    · omega
    · rcases hv.cur i s hs (by omega) with e1 | e1
      · rw [hn] at e1; cases e1
      · have := hv.rO i s e1; omega
  exact gwrite_full p i s nb Ab cb F X o w h1 (h2.rdy hx) hx h2.sz hs h0 hn hsn hsz.2.1 (by rw [h2.room, Gp.more_need h2 hx]; exact hm) hb

/-- What reading a page leaves. -/
def RdOut (w w' : World) (p : Nat) (F : Nat → Prop) (x : Rp) (bs : List Int) (e : Ending) : Prop :=
  ∃ A c, e = .returned (.tuple #[.slice A x.sz c, .int .i64 0]) ∧ w'.ownsRow w.heap.size 5 1 (.slice A x.sz c) x.sz (bv bs) ∧ bs.length = x.sz ∧ (∀ q ∈ bs, 0 ≤ q ∧ q ≤ 255) ∧ GP w' p F x ∧ Chg F w w' ∧ ∀ a, A = some a → ¬ F a.block
theorem gp_read_none (i : Int) (h : GP w p F x) (hu : i < 0 ∨ x.now.length ≤ i ∨ x.now[i.toNat]? = some .no) :
    Calls Tryz.prog 92 #[.pointer (some ⟨p, 0, none⟩), .int .i64 i] w fun e' w' => e' = .returned (.tuple #[.slice none 0 0, .int .i64 14]) ∧ w = w' := by
  obtain ⟨X, h1, h2, rfl⟩ := h
  refine gread_none p i F X w h1 h2.up.1 h2.inv.tb4.1 ?_
  unfold Gp.usedB
  rcases hu with e | e | e
  · rw [decide_eq_false (by omega)]; rfl
  · have e2 : X.view.now.length = X.table.length := by simp [Gp.view]
    rw [e2] at e
    rw [List.getD_eq_getElem?_getD, List.getElem?_eq_none (by omega)]; simp
  · rw [List.getD_eq_getElem?_getD, Gp.entry_no.1 e]; simp
theorem gp_read (c : Pk) (h : GP w p F x) (hi : x.now[i]? = some c) (hu : c.used = true) :
    Calls Tryz.prog 92 #[.pointer (some ⟨p, 0, none⟩), .int .i64 i] w fun e' w' => RdOut w w' p F x (c.bytes x.sz) e' := by
  obtain ⟨X, h1, h2, rfl⟩ := h
  obtain ⟨s, hs, h0, rfl⟩ := Gp.entry_used hi hu
  have hv := h2.inv
  by_cases e1 : s = 1
  · subst e1
    refine (gread_one p i F X w h1 h2.up.1 hv.tb4.1 hs).mono ?_
    rintro e w1 ⟨A, c, rfl, ho, hg⟩
    refine ⟨A, c, rfl, ho, by simp [pk, Pk.bytes, Gp.view], fun q hq => by simp [pk, Pk.bytes] at hq; omega, ⟨X, h1.grew hg, h2, rfl⟩, hg.chg, fun a ha hf => ?_⟩
    subst ha
    have := (ho.lt a.block rfl).1
    have h3 := h1.lt _ hf
    omega
  · have hsn : s < X.D.n := by
      rcases hv.cur i s hs (by omega) with e | e
      · exact (hv.frr s e).2.1
      · exact hv.rO i s e
    have hb : (pk X.D X.fr s).bytes X.view.sz = X.D.rd (s : Int) := by
      unfold pk
      rw [if_neg h0, if_neg e1]
      split <;> rfl
    rw [hb]
    have hlen : (X.D.rd (s : Int)).length = X.D.sz := by
      obtain ⟨L, d, b, A, ca, vp, vt, vo, hG, -⟩ := h1
      exact hG.dsk.rd_len (by omega) (by omega)
    refine (gread_sec p i s F X w h1 h2.up.1 h2.up.2.1 hv.tb4.1 hs (by omega) hsn).mono ?_
    rintro e w1 ⟨A, c, rfl, ho, hg, hc, ha⟩
    exact ⟨A, c, rfl, ho, hlen, hv.byt s hsn, ⟨X, hg, h2, rfl⟩, hc, ha⟩
end

end Go.Proofs.YtjkkoogfaibhiaaGreatDoor

/- The pager, as its pages are: Size. -/
namespace Go.Proofs.YtjkkoogfaibhiaaGreatDoor
open Go.RowKit Go.Maps

section
variable (p i : Nat) (F : Nat → Prop) (x : Rp) (w : World)
theorem gp_size (h : GP w p F x) :
    Calls Tryz.prog 26 #[.pointer (some ⟨p, 0, none⟩)] w fun e' w' => e' = .returned (.int .i64 x.sz) ∧ w = w' := by
  obtain ⟨X, h1, h2, rfl⟩ := h
  exact gsize_any p F X w h1
end

end Go.Proofs.YtjkkoogfaibhiaaGreatDoor

/- How an iterator ends. -/
namespace Go.Proofs.YtjkkoogfaibhiaaGreatDoor
open Go.RowKit

/-- How an iterator ends. -/
def IterEnd (J Jx : World → Prop) (e : Ending) (w : World) : Prop := (∃ v, e = .returned v) ∧ (J w ∨ Jx w)
/-- How a round ends. -/
def Rounded (J Jx : World → Prop) (e : Ending) (w : World) : Prop := (e = .returned (.bool true) ∧ J w) ∨ (e = .returned (.bool false) ∧ Jx w)

theorem rangeEnd_block {P : Program} {l id : Nat} {r : Loop} {Q : Exit → Act → World → Prop} {a : Act} {w3 : World}
    (h : Rec w3 l (Loop.at_ r .ready none) ∨ Rec w3 l (Loop.at_ r .done (some (.exit id)))) (hk : ∀ w4, Kept l w3 w4 → Q .normal a w4) : rangeEnd P l r (Exit.inBlock id Q) a w3 := by
  rcases h with h | h
  · exact .inl ⟨h, fun w4 k => hk w4 k⟩
  · exact .inr ⟨_, h, fun w4 k => wp_exit (by simpa [Exit.inBlock] using hk w4 k)⟩

end Go.Proofs.YtjkkoogfaibhiaaGreatDoor

/- The pager: All, Used. -/
namespace Go.Proofs.YtjkkoogfaibhiaaGreatDoor
open Go.RowKit Go.Maps
attribute [local go_sem] Oper.semAt_some

theorem gall_any (p : Nat) (w W : World) (hW : w.alloc (.cells #[.pointer (some ⟨p, 0, none⟩)] 23) = W) :
    Calls Tryz.prog 29 #[.pointer (some ⟨p, 0, none⟩)] w fun e w' => e = .returned (.func (.func 65) #[] #[.pointer (some ⟨w.heap.size, 0, none⟩)]) ∧ W = w' := by
  subst hW
  go_enter Tryz.func29, Tryz.ntmps29
  go_wp2
  go_ret
  exact ⟨rfl, rfl⟩

/-- What the closure that All makes reads. -/
structure GallIn (W : World) (bb p : Nat) (cs : Array Value) (A : Option Addr) (c : Nat) (l : List Nat) : Prop where
  bb : Blk W bb 23 #[.pointer (some ⟨p, 0, none⟩)]
  p : Blk W p 84 cs
  t : Sl W 1 A l.length (nv l)

set_option maxRecDepth 100000 in
set_option maxHeartbeats 1600000 in
theorem gall_iter (bb p y : Nat) (cs : Array Value) (A : Option Addr) (c : Nat) (l : List Nat) (J Jx : Nat → World → Prop) (w : World) (hl : l.length ≤ 65536) (h4 : cs[4]? = some (.slice A l.length c))
    (hin : ∀ i W, J i W → GallIn W bb p cs A c l)
    (hyld : ∀ i W s, J i W → l[i]? = some s → s ≠ 0 → YieldAt Fence.wide 0 Tryz.prog y #[.int .i64 i] W (Rounded (J (i + 1)) (Jx (i + 1))))
    (hskip : ∀ i W, J i W → l[i]? = some 0 → J (i + 1) W) (h0 : J 0 w) :
    Calls Tryz.prog 65 #[.func (.yield y) #[] #[], .pointer (some ⟨bb, 0, none⟩)] w fun e w' => IterEnd (J l.length) (fun W => ∃ i, Jx i W) e w' := by
  have Hin := Lib.hid hin
  have Hyld := Lib.hid hyld
  have Hsk := Lib.hid hskip
  have H0 := Lib.hid h0
  obtain ⟨c0, f0, s0⟩ := (hin 0 w h0).bb.facts
  have cp4 := ((hin 0 w h0).p.cell 4).trans h4
  clear hin hyld h0 hskip
  (refine (callsIn_wide (n := 1)).1 (callsIn_of_wp Tryz.func65 rfl trivial ?_ rfl); simp only [Tryz.ntmps65, List.size_toArray, List.length_cons, List.length_nil, Nat.reduceAdd, Nat.reduceSub, Array.replicate_succ, Array.replicate_zero, List.push_toArray, List.append_toArray, List.nil_append, List.cons_append])
  gi_wp2
  clear c0 f0 s0 cp4
  gi_loopg [3, 4, 10] (l.length) (fun n a1 a2 v wr => ∃ i : Nat, n = l.length - i ∧ i ≤ l.length ∧ v = .int .i64 i ∧ J i wr)
  case atStart => exact ⟨0, by simp, by omega, rfl, H0.out⟩
  case round =>
    obtain ⟨i, rfl, hi, rfl, hJ⟩ := hrel
    have HJ := Lib.hid hJ
    have hI := Hin.out i wr hJ
    clear hJ
    by_cases hlt : i < l.length
    · obtain ⟨s, hs⟩ : ∃ s, l[i]? = some s := ⟨_, List.getElem?_eq_getElem hlt⟩
      obtain ⟨g, off, rfl, hg, hx⟩ := hI.t.2 (by omega)
      have hc := hx i (.int .i64 s) (by simp [nv, hs])
      have u1 : (0 : Int) ≤ (i : Int) := by omega
      have u2 : (i : Int) < (l.length : Int) := by omega
      have HS := Lib.hid hs
      clear hx hs hI
      by_cases h0 : s = 0
      · subst h0
        have HJ2 := Lib.hid (Hsk.out i wr HJ.out HS.out)
        gi_wp2
        refine ⟨fun _ h => (by cases h), ?_⟩
        gi_wp2
        gi_roundg (l.length - (i + 1))
        case measure => omega
        case rel => exact ⟨i + 1, rfl, by omega, by simp, HJ2.out⟩
      · have e1 : ((s : Int) != 0) = true := by simpa using h0
        obtain ⟨fn, tmps, assign, body, hy, hR⟩ := Hyld.out i wr s HJ.out HS.out h0
        have HR := Lib.hid hR
        clear hR
        gi_wp2_with (refine HR.out.mono ?_; rintro e w4 (⟨rfl, hJ2⟩ | ⟨rfl, hJ2⟩) <;> have HJ2 := Lib.hid hJ2 <;> clear hJ2)
        · gi_roundg (l.length - (i + 1))
          case measure => omega
          case rel => exact ⟨i + 1, rfl, by omega, by simp, HJ2.out⟩
        · refine bodyPost_end (results_none rfl _ _ _) rfl ?_
          exact ⟨⟨_, rfl⟩, .inr ⟨_, HJ2.out⟩⟩
    · obtain rfl : i = l.length := by omega
      clear hI
      gi_wp2
      refine bodyPost_end (results_none rfl _ _ _) rfl ?_
      exact ⟨⟨_, rfl⟩, .inl HJ.out⟩

/-- How many of the first k pages are used. -/
def usedN (l : List Nat) (k : Nat) : Nat := cntN (fun j => l.getD j 0 != 0) k
theorem usedN_succ {l : List Nat} {i s : Nat} (h : l[i]? = some s) : usedN l (i + 1) = usedN l i + if s = 0 then 0 else 1 := by
  unfold usedN
  rw [cntN_succ, List.getD_eq_getElem?_getD, h]
  by_cases h0 : s = 0 <;> simp [h0]

/-- Between two rounds. -/
structure UseJ (Wr W : World) (B L : Nat) (l : List Nat) (i : Nat) (r : Loop) (st : LoopState) (pe : Option Code) : Prop where
  chg : Chg (fun j => j = B ∨ j = L) Wr W
  blk : Blk W B 3 #[.int .i64 (usedN l i)]
  rc : Rec W L (Loop.at_ r st pe)
theorem UseJ.kept {Wr W W' : World} {B L i : Nat} {l : List Nat} {r : Loop} {st st' : LoopState} {pe pe' : Option Code} (h : UseJ Wr W B L l i r st pe) (hk : Kept L W W') (hR : Rec W' L (Loop.at_ r st' pe')) : UseJ Wr W' B L l i r st' pe' :=
  ⟨Chg.trans h.chg hk.chg fun i _ e => .inr e, h.blk.kept hk, hR⟩

set_option maxRecDepth 100000 in
set_option maxHeartbeats 3200000 in
theorem gusedn_any (p : Nat) (F : Nat → Prop) (X : Gp) (w : World) (h : GS w p F X) (hl : X.table.length ≤ 4096) :
    Calls Tryz.prog 12 #[.pointer (some ⟨p, 0, none⟩)] w fun e w' => e = .returned (.int .i64 (usedN X.table X.table.length)) ∧ Grew w w' := by
  obtain ⟨L0, d, b, A, ca, vp, vt, vo, h, hF⟩ := h
  obtain ⟨At, ct, rfl, -⟩ := own_shape h.tbl
  obtain ⟨bx, hbx⟩ : ∃ b, w.heap.size = b := ⟨_, rfl⟩
  obtain ⟨W1, hW1⟩ : ∃ W, w.alloc (.cells #[.int .i64 0] 3) = W := ⟨_, rfl⟩
  have HB1 := Lib.hid (show Blk W1 bx 3 #[.int .i64 0] from hW1 ▸ hbx ▸ Blk.new _ _ _)
  have HG1 := Lib.hid (show Grew w W1 from hW1 ▸ (Chg.refl _ _).alloc _)
  have HW1 := Lib.hid hW1
  obtain ⟨W6, hW6⟩ : ∃ W6, W1.alloc (.cells #[.pointer (some ⟨p, 0, none⟩)] 23) = W6 := ⟨_, rfl⟩
  have HB6 := Lib.hid (show Blk W6 W1.heap.size 23 #[.pointer (some ⟨p, 0, none⟩)] from hW6 ▸ Blk.new _ _ _)
  have HG6 := Lib.hid (show Grew W1 W6 from hW6 ▸ (Chg.refl _ _).alloc _)
  have HA := Lib.hid (gall_any p W1 W6 hW6)
  have H := Lib.hid (And.intro h hF)
  have Hbx := Lib.hid hbx
  clear h hF hW1 hW6 hbx
  (refine calls_of_marks Tryz.func12 rfl ?_; simp only [Tryz.ntmps12, List.size_toArray, List.length_cons, List.length_nil, Nat.reduceAdd, Nat.reduceSub, Array.replicate_succ, Array.replicate_zero, List.push_toArray, List.append_toArray, List.nil_append, List.cons_append])
  go_wp2_with fail
  rw [HW1.out, Hbx.out]
  refine HA.out.mono ?_
  rintro e w5 ⟨rfl, rfl⟩
  go_wp2_with fail
  have hz1 := HB1.out.lt
  have hz6 := HB6.out.lt
  have hbw := Hbx.out
  refine wp_range (gf := 65) (lb := #[.pointer (some ⟨W1.heap.size, 0, none⟩)]) rfl (enters_of Tryz.func65 (by kernel_rfl) rfl) ?_
  intro r Wr D L hr hg1 hDl hLl hD hR
  have HR1 := Lib.hid hr
  have hDL := Ne.symm (hR.ne_dfr hD)
  have hz7 := hg1.size
  have hL2 := hR.lt
  have hD2 := hD.lt
  have HGa := Lib.hid (Grew.trans (Grew.trans HG1.out HG6.out) hg1)
  have HBp := Lib.hid (HB6.out.grew hg1)
  have HPr := Lib.hid (H.out.1.grew HGa.out)
  have HJ0 := Lib.hid (show UseJ Wr Wr bx L X.table 0 r .ready none from ⟨Chg.refl _ _, (HB1.out.grew HG6.out).grew hg1, hR⟩)
  have HDf := Lib.hid hD
  have hlt := H.out.1.lt
  have HLT := Lib.hid hlt
  clear hr hg1 hD hR hlt
  refine (gall_iter W1.heap.size p L _ At ct X.table (fun i W => UseJ Wr W bx L X.table i r .ready none) (fun _ _ => False) Wr (by omega) ?h4
    (fun i W hJ => ⟨HBp.out.chg hJ.chg ?h1, HPr.out.blk.chg hJ.chg ?h2, (Sl.of_own HPr.out.tbl).chg hJ.chg ?h3⟩)
    (fun i W s hJ hx h0 => ?yld) (fun i W hJ hx => ?skp) HJ0.out).mono ?post
  case h4 => rfl
  case h1 => rintro (q | q) <;> omega
  case h2 => have := HLT.out p (by rw [H.out.1.lp]; omega); rintro (q | q) <;> omega
  case h3 => intro a ha; have := HLT.out a.block (by rw [H.out.1.lb a.block (by rw [ha]; rfl)]; omega); rintro (q | q) <;> omega
  case skp => exact ⟨hJ.chg, by rw [usedN_succ hx]; exact hJ.blk, hJ.rc⟩
  case yld =>
    have hil : i < X.table.length := (List.getElem?_eq_some_iff.1 hx).1
    have hus := usedN_succ hx
    rw [if_neg h0] at hus
    have hcl : usedN X.table i ≤ i := cntN_le _ _
    have HU := Lib.hid hus
    have HJ := Lib.hid hJ
    clear hx hJ hus
    obtain ⟨hr1, hr2, hr3', hr4⟩ := HR1.out
    refine yield_wide HJ.out.rc (by rw [hr2]; rfl) ?_
    rw [hr1, hr2, hr3', hr4]
    clear hr1 hr2 hr3' hr4
    intro K hK
    have HKK := Lib.hid hK
    clear hK
    gi_wp2
    refine HKK.out _ _ HJ.out.rc fun W5 Q hk3 hR2 hQ => ?_
    refine Code.wpIn_mono hQ ?_
    have HJ5 := Lib.hid (HJ.out.kept hk3 hR2)
    clear hk3 hR2 hQ Q
    obtain ⟨c1, f1, s1⟩ := HJ5.out.blk.facts
    gi_wp2
    obtain ⟨W8, hW8⟩ : ∃ W8, W5.setCell ⟨bx, 0, none⟩ (.int .i64 ((usedN X.table i : Int) + 1)) = W8 := ⟨_, rfl⟩
    rw [hW8]
    have HJ8 : UseJ Wr W8 bx L X.table (i + 1) r .busy none := by
      subst hW8
      refine ⟨HJ5.out.chg.setCell (p := ⟨bx, 0, none⟩) (fun _ => .inl rfl) _, ?_, HJ5.out.rc.chg ((Chg.refl (fun j => j = bx) W5).setCell (p := ⟨bx, 0, none⟩) (fun _ => rfl) _) (by omega)⟩
      have := HJ5.out.blk.put 0 (.int .i64 ((usedN X.table i : Int) + 1))
      rw [HU.out]
      simpa using this
    exact ⟨HJ8.rc, fun w' hk' hR' => .inl ⟨rfl, HJ8.kept hk' hR'⟩⟩
  case post =>
    rintro e w3' ⟨hv, hJ⟩
    refine ⟨hv, ?_⟩
    rcases hJ with hJ | ⟨i, hJ⟩
    rotate_left
    · exact hJ.elim
    refine .inl ⟨hJ.rc, fun w4 hk4 => ?_⟩
    have HC4 := Lib.hid (Chg.trans hJ.chg hk4.chg fun i _ e => .inr e)
    have HB4 := Lib.hid (hJ.blk.kept hk4)
    clear hJ hk4
    have HD4 := Lib.hid (HDf.out.chg HC4.out (by rintro (e | e) <;> omega))
    have hcw4 := HC4.out.size
    have HGw := Lib.hid (show Grew w w4 from Chg.mono (Chg.trans (F := fun j => w.heap.size ≤ j) HGa.out.chg HC4.out fun i hi e => by rcases e with e | e <;> omega) fun i hi e => absurd e (by omega))
    obtain ⟨c1, f1, s1⟩ := HB4.out.facts
    go_wp2_with fail
    refine postM_ret1 (v := .int .i64 (usedN X.table X.table.length)) (D := D) HD4.out rfl fun w5 hk5 => ⟨?_, ?_⟩
    · simp [results, Tryz.results12, go_sem]
    · exact ⟨rfl, Chg.kept HGw.out hk5 (by omega)⟩

end Go.Proofs.YtjkkoogfaibhiaaGreatDoor

/- The pager, as its pages are: Used. -/
namespace Go.Proofs.YtjkkoogfaibhiaaGreatDoor
open Go.RowKit Go.Maps

section
variable (p i : Nat) (F : Nat → Prop) (x : Rp) (w : World)
theorem gp_used (h : GP w p F x) :
    Calls Tryz.prog 12 #[.pointer (some ⟨p, 0, none⟩)] w fun e' w' => e' = .returned (.int .i64 (x.now.countP Pk.used)) ∧ Grew w w' := by
  obtain ⟨X, h1, h2, rfl⟩ := h
  have e : usedN X.table X.table.length = X.view.now.countP Pk.used := by
    unfold usedN Gp.view
    rw [cntN_countP, List.countP_map, countP_range X.table]
    refine List.countP_congr fun k hk => ?_
    simp only [Function.comp, pk_used]
  rw [← e]
  exact gusedn_any p F X w h1 h2.inv.tb4.1
end

end Go.Proofs.YtjkkoogfaibhiaaGreatDoor

/- append(s, make([]T, k)...), s the call's own row: k zero values behind. No program stands in this text. -/
namespace Go.Proofs.YtjkkoogfaibhiaaGreatDoor
open Go.RowKit

theorem zeroCells_list (z : Value) (hz : z.cells = #[z]) (k : Nat) : (Builtin.zeroCells z.cells k).toList = List.replicate k z := by
  rw [hz]
  refine List.eq_replicate_iff.2 ⟨by simp [Builtin.zeroCells], fun b hb => ?_⟩
  simp only [Builtin.zeroCells, Array.toList_map, List.mem_map] at hb
  obtain ⟨m, -, rfl⟩ := hb
  have : m % 1 = 0 := Nat.mod_one m
  simp [this]
theorem run_append_zeros_own {P : Program} (w : World) (base : Nat) (t tn ty e : TypeId) (i : TypeInfo) (z : Value) (kq kn : IntKind) (ht : P.underlying t = some (.slice e)) (htn : P.underlying tn = some (.int kn)) (hi : P.info? e = some i) (hz : i.zero = some z)
    (hsz : i.size = 1) (hby : i.bytes ≤ 8) (hzc : z.cells = #[z]) (hz1 : z.oneCell' = true) (g n c : Nat) (xs : List Value) (hown : w.ownsRow base e 1 (.slice (some ⟨g, 0, none⟩) n c) n xs) (k : Nat) (hk : n + k ≤ 1000000) (hb : base ≤ w.heap.size) :
    ∃ v' w', (Builtin.append_ #[t, tn] ty #[.slice (some ⟨g, 0, none⟩) n c, .int kq k]).run P w = .ok v' w' ∧ w'.ownsRow base e 1 v' (n + k) (xs ++ List.replicate k z) ∧ w.grownBy w' (some g) ∧ (v'.ownBlock = some g ∨ v'.ownBlock = some w.heap.size) := by
  obtain ⟨cur, hbg, hg, hnc, hcm, hcs, htake, hxl⟩ := own_row hown
  have hw : IntKind.i64.wrap (k : Int) = k := by rw [IntKind.wrap_i64]; omega
  have hneg : ¬ ((k : Int) < 0) := by omega
  have h48i : ¬ (281474976710656 < (k : Int) * (i.bytes : Int)) := by
    rw [← Int.natCast_mul]
    have : k * i.bytes ≤ k * 8 := Nat.mul_le_mul_left _ hby
    omega
  have hlen : (xs ++ List.replicate k z).length = (n + k) * 1 := by simp; omega
  by_cases hroom : n + k ≤ c
  · have hst := run_storeCells_at P g (n * i.size) e (List.replicate k z) 0 cur w hg (by simp [hsz]; omega) (fun v hv => by rw [(List.mem_replicate.1 hv).2]; exact hz1)
    simp only [Nat.add_zero] at hst
    have hzl := zeroCells_list z hzc k
    refine ⟨.slice (some ⟨g, 0, none⟩) (n + k) c, _, ?_, ⟨hlen, .inr ⟨g, c, _, rfl, hbg, setRow_heap w g cur (cur.toList.take n ++ List.replicate k z ++ cur.toList.drop (n + k)).toArray e _ hg, hroom, hcm, ?_, ?_⟩⟩, ⟨rfl, rfl, rfl, by simp, fun j _ hj => setRow_other w g j _ (fun e => hj (by simp [e]))⟩, .inl rfl⟩
    · by_cases h0 : k = 0
      · subst h0
        have hself := setRow_self w g cur e (0, 0) hg
        simp only [List.replicate_zero, List.append_nil, Nat.add_zero, List.take_append_drop, Array.toArray_toList, hself]
        have hw0 : IntKind.i64.wrap 0 = 0 := by decide
        simp [Builtin.append_, run_underlying ht, run_underlying htn, sizeOf, typeInfo, zeroValue, hi, hz, hsz, asInt, asIntOf, hw0, hnc, Addr.add_lit, storeCells]
      · have hns : ¬ (k * 1 = 0) := by omega
        rw [hsz, Nat.mul_one] at hst
        simp only [List.length_replicate] at hst
        simp [Builtin.append_, run_underlying ht, run_underlying htn, sizeOf, typeInfo, zeroValue, hi, hz, hsz, asInt, asIntOf, hw, hneg, h48i, hroom, h0, Addr.add_lit, hzl, hst]
    · simp only [List.size_toArray, List.length_append, List.length_take, List.length_drop, Array.length_toList, List.length_replicate]
      omega
    · rw [← hlen]
      have : cur.toList.take n = xs := by rw [← htake, Nat.mul_one]
      rw [this]
      simp only [List.append_assoc]
      rw [← List.append_assoc]
      exact List.take_left
  · have hr := Lib.run_append_grow_zeros (P := P) w t tn ty e i z kq kn ht htn hi hz (some ⟨g, 0, none⟩) n c xs
      (by rw [hsz]; exact run_firstCells_some (P := P) w.drew 1 n ⟨g, 0, none⟩ n c xs (by omega) (hown.cells (g := g) rfl)) k (by omega) (by omega) (by omega) (by omega)
      (by have : k * i.bytes ≤ k * 8 := Nat.mul_le_mul_left _ hby; omega) (growslice_fits (by omega) (by have : (n + k) * i.bytes ≤ (n + k) * 8 := Nat.mul_le_mul_left _ hby; omega))
    have hge := grownCap_ge w (n + k) c e
    have hcm' : grownCap w (n + k) c e ≤ maxLen := grownCap_le_maxLen w (n + k) c e (by simp only [maxLen]; omega)
    refine ⟨_, _, hr, ⟨hlen, .inr ⟨w.heap.size, _, _, rfl, hb, heap_alloc_new w.drew _, hge, hcm', ?_, ?_⟩⟩, ⟨rfl, rfl, rfl, by simp, fun j hj _ => heap_alloc_old w.drew _ hj⟩, .inr rfl⟩
    · simp only [Array.size_append, List.size_toArray, size_zeroCells, hzc]
      simp
      omega
    · rw [← hlen]
      simp only [Array.toList_append, zeroCells_list z hzc]
      exact List.take_left

theorem wpList_append_zeros {P : Program} {w : World} {ops : Array Oper} {rest : List Oper} {o : Oper} {a : Act} {Q : Exit → Act → World → Prop} (hgd : o.guard = none) (s x : Operand) (base : Nat) (t tn e : TypeId)
    (ho : o.op = .call { callee := .builtin .append, args := #[s, x], argTypes := #[t, tn] }) (i : TypeInfo) (z : Value) (kq kn : IntKind) (ht : P.underlying t = some (.slice e)) (htn : P.underlying tn = some (.int kn)) (hi : P.info? e = some i) (hz : i.zero = some z)
    (hsz : i.size = 1) (hby : i.bytes ≤ 8) (hzc : z.cells = #[z]) (hz1 : z.oneCell' = true) (v : Value) (n : Nat) (xs : List Value) (hown : w.ownsRow base e 1 v n xs) (hn0 : 0 < n) (k : Nat) (hk : n + k ≤ 1000000) (hb : base ≤ w.heap.size)
    (hs : a.eval s = v) (hx : a.eval x = .int kq k)
    (h : ∀ v' w', w'.ownsRow base e 1 v' (n + k) (xs ++ List.replicate k z) → w.grownBy w' v.ownBlock → (v'.ownBlock = v.ownBlock ∨ v'.ownBlock = some w.heap.size) → wpList P ops Q rest (a.put o.dst v') w') : wpList P ops Q (o :: rest) a w := by
  obtain ⟨A, c, rfl, -⟩ := own_shape hown
  obtain ⟨g, rfl, -⟩ := own_block hown hn0
  obtain ⟨v', w', hr, h1, h2, h3⟩ := run_append_zeros_own (P := P) w base t tn o.type e i z kq kn ht htn hi hz hsz hby hzc hz1 g n c xs hown k hk hb
  refine wpList_plain hgd fun _ hK => ?_
  unfold Oper.wp execOp
  simp only [ho, resolve, invoke, builtin, Sem.run_bind, Sem.run_pure, Result.andThen_ok, List.map_toArray, List.map_cons, List.map_nil, hs, hx, hr]
  exact hK _ _ (h v' w' h1 h2 h3)

end Go.Proofs.YtjkkoogfaibhiaaGreatDoor

/- The chain: Need, page. -/
namespace Go.Proofs.YtjkkoogfaibhiaaGreatDoor
open Go.RowKit Go.Maps

/-- How many pages a record needs. -/
def needI (n sz : Int) : Int := if n < 1 ∨ 16384 < n ∨ sz < 64 then 0 else (n - 1) / (sz - 5) + 1
theorem need_any (n sz : Int) (w : World) (h1 : -9223372036854775808 ≤ n ∧ n ≤ 9223372036854775807) (h2 : -9223372036854775808 ≤ sz ∧ sz ≤ 9223372036854775807) :
    Calls Tryz.prog 58 #[.int .i64 n, .int .i64 sz] w fun e w' => e = .returned (.int .i64 (needI n sz)) ∧ w = w' := by
  unfold needI
  by_cases hn : n < 1 ∨ 16384 < n ∨ sz < 64
  · rw [if_pos hn]
    rcases Classical.em (n < 1) with a | a
    · have t1 : decide (n < 1) = true := decide_eq_true a
      clear hn
      go_enter Tryz.func58, Tryz.ntmps58
      go_wp2
      go_ret
      exact ⟨rfl, rfl⟩
    · have t1 : decide (n < 1) = false := decide_eq_false a
      rcases Classical.em (16384 < n) with b | b
      · have t2 : decide (16384 < n) = true := decide_eq_true b
        clear hn
        go_enter Tryz.func58, Tryz.ntmps58
        go_wp2
        go_ret
        exact ⟨rfl, rfl⟩
      · have t2 : decide (16384 < n) = false := decide_eq_false b
        have t3 : decide (sz < 64) = true := decide_eq_true (by omega)
        clear hn
        go_enter Tryz.func58, Tryz.ntmps58
        go_wp2
        go_ret
        exact ⟨rfl, rfl⟩
  · rw [if_neg hn]
    have t1 : decide (n < 1) = false := decide_eq_false (by omega)
    have t2 : decide (16384 < n) = false := decide_eq_false (by omega)
    have t3 : decide (sz < 64) = false := decide_eq_false (by omega)
    have q1 : (sz - 5) ≠ 0 := by omega
    have q2 : 0 ≤ (n - 1) / (sz - 5) := Int.ediv_nonneg (by omega) (by omega)
    have q3 : (n - 1) / (sz - 5) ≤ 16384 := by have := Int.ediv_le_self (b := sz - 5) (show 0 ≤ n - 1 by omega); omega
    have q4 : (n - 1).tdiv (sz - 5) = (n - 1) / (sz - 5) := Int.tdiv_eq_ediv_of_nonneg (by omega)
    have b1 : 1 ≤ n := by omega
    have b2 : n ≤ 16384 := by omega
    have b3 : 64 ≤ sz := by omega
    have b4 := h2.2
    clear hn
    go_enter Tryz.func58, Tryz.ntmps58
    go_wp2
    go_ret
    exact ⟨rfl, rfl⟩

/-- The bytes of a chain's page. -/
def pgL (bs : List Int) (next sz : Nat) : List Int := [3, ((next % 256 : Nat) : Int), ((next / 256 % 256 : Nat) : Int), ((bs.length % 256 : Nat) : Int), ((bs.length / 256 % 256 : Nat) : Int)] ++ bs ++ List.replicate (sz - 5 - bs.length) 0
set_option maxRecDepth 100000 in
set_option maxHeartbeats 1600000 in
theorem cpage_any (bs : List Int) (next sz : Nat) (A : Option Addr) (c : Nat) (w : World) (hs : Sl w 1 A bs.length (bv bs)) (hA : A ≠ none) (hl : bs.length + 5 ≤ sz) (hz : sz ≤ 4096) (hn : next ≤ 65535) :
    Calls Tryz.prog 61 #[.slice A bs.length c, .int .i64 next, .int .i64 sz] w fun e w' => OwnOut w w' 5 1 sz (bv (pgL bs next sz)) (fun A c => .slice A sz c) e := by
  obtain ⟨i0, hi0, hz0, hz1, hz2⟩ := info_parts u8Info_
  obtain ⟨a, rfl⟩ : ∃ a, A = some a := by cases A with | none => exact absurd rfl hA | some a => exact ⟨a, rfl⟩
  obtain ⟨n, hn0⟩ : ∃ n, bs.length = n := ⟨_, rfl⟩
  have H := Lib.hid (And.intro hs hn0)
  have hcells : ∀ (w1 : World), Grew w w1 → ∀ j u, (bv bs)[j]? = some u → w1.cell? (Addr.add a j) = some u := by
    intro w1 hg j u hu
    have hj : j < bs.length := by have := (List.getElem?_eq_some_iff.1 hu).1; rwa [bv_len] at this
    obtain ⟨b, off, e, hb, hx⟩ := hs.2 (by omega)
    cases e
    rw [Addr.add_lit]
    exact (hg.cell (p := ⟨b, off + j, none⟩) hb id).trans (hx j u hu)
  have HC := Lib.hid hcells
  rw [hn0] at hl ⊢
  clear hs hn0 hcells hA
  have q1 : ((next / 256 % 256 : Nat) : Int) = (next : Int) / 256 := by omega
  have q2 : ((n / 256 % 256 : Nat) : Int) = (n : Int) / 256 := by omega
  go_enter Tryz.func61, Tryz.ntmps61
  go_wp2_with (first
    | (at_builtin; (refine wpList_append_own _ rfl _ _ _ rfl w.heap.size 5 i0 _ 1 1 Tryz.underlying34 hi0 hz0 hz1 hz2 rfl (by omega) _ 5 _ rfl (World.ownsRow_lit w #[.int .u8 3, .int .u8 ((next : Int) % 256), .int .u8 ((next : Int) / 256), .int .u8 ((n : Int) % 256), .int .u8 ((n : Int) / 256)] 5 (Nat.le_refl _) (by simp [maxLen]) (by simp)) a n c (bv bs) rfl (by rw [bv_len, H.out.2, Nat.mul_one]) (HC.out _ ((Chg.refl _ _).alloc _)) (bv_one bs) (by simp only [maxLen]; omega) (by omega) (by simp) ?_); intro v1 w1 hown1 hgrow hnil; obtain ⟨A1, c1, rfl, hc1⟩ := own_shape hown1; have HO := Lib.hid hown1; have HG := Lib.hid (show World.grownBy (w.alloc (.cells #[.int .u8 3, .int .u8 ((next : Int) % 256), .int .u8 ((next : Int) / 256), .int .u8 ((n : Int) % 256), .int .u8 ((n : Int) / 256)] 5)) w1 (some w.heap.size) from hgrow); clear hown1 hgrow hnil)
    | (at_builtin; (refine wpList_append_zeros rfl _ _ w.heap.size _ _ 5 rfl i0 (.int .u8 0) _ _ Tryz.underlying34 Tryz.underlying3 hi0 hz0 hz1 (by rw [hz2]; omega) rfl rfl _ _ _ HO.out (by omega) (sz - 5 - n) (by omega) (by have := HG.out.size; simp at this; omega) rfl (show Value.int .i64 ((sz : Int) - (5 + (n : Int))) = Value.int .i64 ((sz - 5 - n : Nat) : Int) from congrArg (Value.int .i64) (by omega)) ?_); intro v2 w2 hown2 hgrow2 hat2; rw [show 5 + n + (sz - 5 - n) = sz from by omega] at hown2; obtain ⟨A2, c2, rfl, hc2⟩ := own_shape hown2; have HO2 := Lib.hid hown2; have HG2 := Lib.hid (And.intro hgrow2 hat2); clear hown2 hgrow2 hat2))
  go_ret
  have hl2 : bv (pgL bs next sz) = #[.int .u8 3, .int .u8 ((next : Int) % 256), .int .u8 ((next : Int) / 256), .int .u8 ((n : Int) % 256), .int .u8 ((n : Int) / 256)].toList ++ bv bs ++ List.replicate (sz - 5 - n) (.int .u8 0) := by
    unfold pgL
    rw [H.out.2, q1, q2]
    simp [bv]
  have hg1 : Grew w w1 := ((Chg.refl NoF w).alloc _).grown HG.out (fun k hk hlt => by injection hk with hk; omega)
  refine OwnOut.mk A2 c2 rfl ?_ ?_
  · rw [hl2]
    exact HO2.out
  · exact hg1.grown HG2.out.1 (fun k hk hlt => by have := (HO.out.lt k hk).1; omega)

end Go.Proofs.YtjkkoogfaibhiaaGreatDoor

/- slices.Chunk at bytes. -/
namespace Go.Proofs.YtjkkoogfaibhiaaGreatDoor
open Go.RowKit Go.Maps
attribute [local go_sem] Oper.semAt_some

theorem chunk_any (A : Option Addr) (len c n : Nat) (w W : World) (hn : 1 ≤ n) (hW : (w.alloc (.cells #[.slice A len c] 34)).alloc (.cells #[.int .i64 n] 3) = W) :
    Calls Tryz.prog 60 #[.slice A len c, .int .i64 n] w fun e w' => e = .returned (.func (.func 91) #[] #[.pointer (some ⟨w.heap.size, 0, none⟩), .pointer (some ⟨w.heap.size + 1, 0, none⟩)]) ∧ W = w' := by
  subst hW
  have a1 : decide ((n : Int) < 1) = false := decide_eq_false (by omega)
  go_enter Tryz.func60, Tryz.ntmps60
  go_wp2
  go_ret
  exact ⟨rfl, rfl⟩

/-- What the closure that Chunk makes reads. -/
structure ChunkIn (W : World) (b1 b2 : Nat) (A : Option Addr) (len c n : Nat) : Prop where
  b1 : Blk W b1 34 #[.slice A len c]
  b2 : Blk W b2 3 #[.int .i64 n]

set_option maxRecDepth 100000 in
set_option maxHeartbeats 1600000 in
theorem chunk_iter (b1 b2 y g off len c n K : Nat) (J Jx : Nat → World → Prop) (w : World) (hn : 1 ≤ n) (hl : len ≤ 100000) (hn2 : n ≤ 100000) (hc : len ≤ c) (hK : ∀ k, k * n < len ↔ k < K)
    (hin : ∀ k W, J k W → ChunkIn W b1 b2 (some ⟨g, off, none⟩) len c n)
    (hdr : ∀ (k : Nat) (W : World) (q : Nat), J k W → J k (W.drewN q))
    (hyld : ∀ (k i m : Nat) W, J k W → i = k * n → i < len → m = min n (len - i) → YieldAt Fence.wide 0 Tryz.prog y #[.slice (some ⟨g, off + i, none⟩) m m] W (Rounded (J (k + 1)) (Jx (k + 1)))) (h0 : J 0 w) :
    Calls Tryz.prog 91 #[.func (.yield y) #[] #[], .pointer (some ⟨b1, 0, none⟩), .pointer (some ⟨b2, 0, none⟩)] w fun e w' => IterEnd (J K) (fun W => ∃ k, Jx k W) e w' := by
  have Hin := Lib.hid hin
  have Hyld := Lib.hid hyld
  have H0 := Lib.hid h0
  have HK := Lib.hid hK
  have Hdr := Lib.hid hdr
  clear hin hyld h0 hK hdr
  (refine (callsIn_wide (n := 1)).1 (callsIn_of_wp Tryz.func91 rfl trivial ?_ rfl); simp only [Tryz.ntmps91, List.size_toArray, List.length_cons, List.length_nil, Nat.reduceAdd, Nat.reduceSub, Array.replicate_succ, Array.replicate_zero, List.push_toArray, List.append_toArray, List.nil_append, List.cons_append])
  gi_wp2
  gi_loopg [4] K (fun q v wr => ∃ k i : Nat, q = K - k ∧ k ≤ K ∧ i = k * n ∧ i ≤ 200000 ∧ v = .int .i64 i ∧ J k wr)
  case atStart => exact ⟨0, 0, by simp, by omega, by simp, by omega, rfl, H0.out⟩
  case round =>
    obtain ⟨k, i, rfl, hk, hi, hi2, rfl, hJ⟩ := hrel
    have HJ := Lib.hid hJ
    have hI := Hin.out k wr hJ
    obtain ⟨c0, f0, s0⟩ := hI.b1.facts
    obtain ⟨c1, f1, s1⟩ := hI.b2.facts
    have HI := Lib.hid hi
    clear hJ hI hi
    by_cases hlt : i < len
    · have hkK : k < K := (HK.out k).1 (HI.out ▸ hlt)
      have hnext : i + n = (k + 1) * n := by rw [HI.out, Nat.add_mul, Nat.one_mul]
      have HN := Lib.hid hnext
      have u1 : (i : Int) < (len : Int) := by omega
      have HJn := Lib.hid (fun q => Hdr.out k wr q HJ.out)
      clear hnext
      by_cases hmn : n ≤ len - i
      · have u2 : decide ((n : Int) < (len : Int) - (i : Int)) = decide (n < len - i) := by rw [decide_eq_decide]; omega
        gi_wp2_with fail
        gi_big_quiet (fail)
        obtain ⟨fn, tmps, assign, body, hy, hR⟩ := Hyld.out k i n (wr.drewN nq) (HJn.out nq) HI.out hlt (Nat.min_eq_left hmn).symm
        have HR := Lib.hid hR
        clear hR
        gi_wp2_with fail
        refine HR.out.mono ?_
        rintro e w4 (⟨rfl, hJ2⟩ | ⟨rfl, hJ2⟩)
        · have HJ2 := Lib.hid hJ2
          obtain ⟨c2, f2, s2⟩ := (Hin.out (k + 1) w4 hJ2).b2.facts
          clear hJ2
          gi_wp2
          gi_roundg (K - (k + 1))
          case measure => omega
          case rel => exact ⟨k + 1, i + n, rfl, by omega, HN.out, by omega, by simp, HJ2.out⟩
        · have HJ2 := Lib.hid hJ2
          clear hJ2
          gi_wp2
          refine bodyPost_end (results_none rfl _ _ _) rfl ?_
          exact ⟨⟨_, rfl⟩, .inr ⟨_, HJ2.out⟩⟩
      · have u2 : decide ((n : Int) < (len : Int) - (i : Int)) = decide (n < len - i) := by rw [decide_eq_decide]; omega
        have e1 : (len : Int) - (i : Int) = ((len - i : Nat) : Int) := by omega
        gi_wp2_with fail
        gi_big_quiet (fail)
        obtain ⟨fn, tmps, assign, body, hy, hR⟩ := Hyld.out k i (len - i) (wr.drewN nq) (HJn.out nq) HI.out hlt (Nat.min_eq_right (by omega)).symm
        have HR := Lib.hid hR
        clear hR
        gi_wp2_with fail
        refine HR.out.mono ?_
        rintro e w4 (⟨rfl, hJ2⟩ | ⟨rfl, hJ2⟩)
        · have HJ2 := Lib.hid hJ2
          obtain ⟨c2, f2, s2⟩ := (Hin.out (k + 1) w4 hJ2).b2.facts
          clear hJ2
          gi_wp2
          gi_roundg (K - (k + 1))
          case measure => omega
          case rel => exact ⟨k + 1, i + n, rfl, by omega, HN.out, by omega, by simp, HJ2.out⟩
        · have HJ2 := Lib.hid hJ2
          clear hJ2
          gi_wp2
          refine bodyPost_end (results_none rfl _ _ _) rfl ?_
          exact ⟨⟨_, rfl⟩, .inr ⟨_, HJ2.out⟩⟩
    · obtain rfl : k = K := by have := (HK.out k).2; rw [← HI.out] at this; omega
      have u1 : (len : Int) ≤ (i : Int) := by omega
      gi_wp2
      refine bodyPost_end (results_none rfl _ _ _) rfl ?_
      exact ⟨⟨_, rfl⟩, .inl HJ.out⟩

end Go.Proofs.YtjkkoogfaibhiaaGreatDoor
