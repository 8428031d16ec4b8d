/- Texts 3 of 4 that the proof of ChainPuts stands on. -/
import Derived.Test.YtjlfnebkibgfmaaDoorMgChainPuts2
import Derived.Sort.LoopGhostIn
import Derived.BigGuardIn
import Derived.Lib.AppendZerosOnto
import Derived.OrdersHeld
import Derived.Deep.RegionHeld
set_option linter.unusedSimpArgs false
set_option linter.unusedVariables false

/- A new disk. -/
namespace Go.Proofs.YtjlfnebkibgfmaaDoor
open Go.RowKit Go.Maps

theorem make_bytes (n : Nat) (w : World) (hn : n ≤ 1000000) : ∃ w', (Instr.makeSlice 29 (.int .i64 n) (.int .i64 n)).run Tryd.prog w = .ok (.slice (some ⟨w.heap.size, 0, none⟩) n n) w' ∧ w'.ownsRow w.heap.size 5 1 (.slice (some ⟨w.heap.size, 0, none⟩) n n) n (bv (List.replicate n 0)) ∧ Grew w w' ∧ w'.heap.size = w.heap.size + 1 := by
  obtain ⟨i0, hi0, hz0, hz1, hz2⟩ := info_parts u8Info
  have hr := run_makeSlice (P := Tryd.prog) w 29 5 i0 (.int .u8 0) Tryd.underlying29 hi0 hz0 .i64 .i64 n n (by omega) (by omega) (by rw [hz1]; simp; omega) (by rw [hz2]; omega) (by omega)
  obtain ⟨w3, hr3, hown3, hg3⟩ := run_make_full (P := Tryd.prog) w w.heap.size 29 5 i0 (.int .u8 0) 1 Tryd.underlying29 hi0 hz0 hz1 .i64 .i64 n (by rw [hz2]; omega) (by simp only [maxLen]; omega) (Nat.le_refl _)
  rw [hr3] at hr
  injection hr with hr1 hr2
  refine ⟨w3, hr3, ?_, (Chg.refl NoF w).grown hg3 (fun j hj _ => by cases hj), by rw [hr2]; simp⟩
  have := hown3
  rw [show (Value.int .u8 0).cells = #[.int .u8 0] from rfl, Nat.mul_one, toList_madeCells_one] at this
  simpa [bv] using this

theorem rowInfo : (Tryd.prog.info? 29).map (fun i => (i.zero, i.size, i.bytes)) = some (some (.slice none 0 0), 1, 24) := by kernel_rfl

/-- A disk of k sectors, on the way. -/
structure NewJ (w wr : World) (d sz k : Nat) (A : Option Addr) (c M : Nat) (vs : List Value) : Prop where
  blk : Blk wr d 84 #[.int .i64 sz, .slice A k c, .map (some M), .bool false, .int .i64 0, .bool false, .int .i64 0]
  row : wr.ownsRow w.heap.size 29 1 (.slice A k c) k vs
  map : IMap Tryd.prog 3 wr M (fun _ => none) 0
  dat : ∀ i, i < k → ∃ v, vs[i]? = some v ∧ BRow wr (fun j => w.heap.size ≤ j ∧ j < wr.heap.size) v (List.replicate sz 0)
  grew : Grew w wr
  new : w.heap.size ≤ d ∧ w.heap.size ≤ M ∧ M < wr.heap.size

theorem NewJ.more {w wr w3 W4 w5 w6 : World} {d sz k c M g cap : Nat} {A : Option Addr} {vs : List Value} (h : NewJ w wr d sz k A c M vs) (hm : w3.ownsRow wr.heap.size 5 1 (.slice (some ⟨wr.heap.size, 0, none⟩) sz sz) sz (bv (List.replicate sz 0))) (hg3 : Grew wr w3) (hg34 : Grew w3 W4) (hg4 : Grew wr W4)
    (ho : w5.ownsRow w.heap.size 29 1 (.slice (some ⟨g, 0, none⟩) (k + 1) cap) (k + 1) (vs ++ [.slice (some ⟨wr.heap.size, 0, none⟩) sz sz])) (hg5 : W4.grownBy w5 (Value.slice A k c).ownBlock) (hne : d ≠ g ∧ ∀ j, (Value.slice A k c).ownBlock = some j → j ≠ d)
    (hW : w5.setCell ⟨d, 1, none⟩ (.slice (some ⟨g, 0, none⟩) (k + 1) cap) = w6) : NewJ w w6 d sz (k + 1) (some ⟨g, 0, none⟩) cap M (vs ++ [.slice (some ⟨wr.heap.size, 0, none⟩) sz sz]) := by
  have hc56 : Chg (fun j => j = d) w5 w6 := hW ▸ (Chg.refl (fun j => j = d) w5).setCell (p := ⟨d, 1, none⟩) (fun _ => rfl) _
  have hc4 : Chg (fun j => some j = (Value.slice A k c).ownBlock ∨ j = d) W4 w6 := Chg.trans ((Chg.refl (fun j => some j = (Value.slice A k c).ownBlock ∨ j = d) W4).grown hg5 fun j hj _ => .inl hj.symm) hc56 fun j _ e => .inr e
  have hc : Chg (fun j => some j = (Value.slice A k c).ownBlock ∨ j = d) wr w6 := hg4.then hc4
  have hnB : ∀ {u : World}, Grew wr u → ∀ j, (some j = (Value.slice A k c).ownBlock ∨ j = d) → NotB u j := fun hg j hj => by
    rcases hj with e | rfl
    · exact own_notB (own_grew h.row hg) (by decide) e.symm
    · exact (h.blk.grew hg).notB (by decide)
  have hb5 : Blk w5 d 84 #[.int .i64 sz, .slice A k c, .map (some M), .bool false, .int .i64 0, .bool false, .int .i64 0] := (h.blk.grew hg4).grown hg5 (fun e => hne.2 _ e.symm rfl)
  have hsz := h.grew.size
  have hszc := hc.size
  have hvl : vs.length = k := by have := h.row.1; simpa using this
  refine ⟨?_, ?_, h.map.chg hc ?_, fun i hi => ?_, ?_, h.new.1, h.new.2.1, Nat.lt_of_lt_of_le h.new.2.2 hszc⟩
  · subst hW
    have := hb5.put 1 (.slice (some ⟨g, 0, none⟩) (k + 1) cap)
    simpa using this
  · exact own_chg ho hc56 fun j hj e => by simp [Value.ownBlock] at hj; omega
  · rintro (e | e)
    · rcases h.row.2 with ⟨e1, _⟩ | ⟨g', cp, cr, e1, _, hb, _⟩
      · rw [e1] at e; simp [Value.ownBlock] at e
      · have : M = g' := by rw [e1] at e; simpa [Value.ownBlock] using e
        subst this
        obtain ⟨E, ⟨es, cl, hm', -⟩, -⟩ := h.map
        rw [hb] at hm'
        cases hm'
    · exact imap_ne h.map h.blk e
  · by_cases hik : i < k
    · obtain ⟨v, h1, h2⟩ := h.dat i hik
      exact ⟨v, by rw [List.getElem?_append_left (by omega)]; exact h1, (h2.past hc (hnB (Chg.refl _ _))).mono fun j hj => ⟨hj.1, by omega⟩⟩
    · obtain rfl : i = k := by omega
      refine ⟨.slice (some ⟨wr.heap.size, 0, none⟩) sz sz, by rw [List.getElem?_append_right (by omega), hvl]; simp, ?_, fun j hj => ?_⟩
      · have h3 : BRow w3 (fun _ => True) (.slice (some ⟨wr.heap.size, 0, none⟩) sz sz) (List.replicate sz 0) := ⟨by have := own_base hm (Nat.zero_le _); simpa using this, fun _ _ => trivial⟩
        exact (h3.past (hg34.then hc4) (hnB hg3)).1
      · have : j = wr.heap.size := by simp [Value.ownBlock] at hj; omega
        subst this
        have := (hm.lt wr.heap.size rfl).2
        have := hg34.size
        have := hc4.size
        exact ⟨hsz, by omega⟩
  · refine Chg.mono (h.grew.then hc) fun i hi e => ?_
    rcases e with e | e
    · have := (h.row.lt i e.symm).1; omega
    · have := h.new.1; omega

set_option maxRecDepth 100000 in
set_option maxHeartbeats 3200000 in
theorem dnew_any (n sz : Nat) (w : World) (h1 : 1 ≤ n) (h2 : n ≤ 4096) (h3 : 16 ≤ sz) (h4 : sz ≤ 4096) :
    Calls Tryd.prog 19 #[.int .i64 n, .int .i64 sz] w fun e w' => ∃ d F, e = .returned (.pointer (some ⟨d, 0, none⟩)) ∧ DS w' d F ⟨n, sz, fun _ => List.replicate sz 0, fun _ => none, false, 0, false, 0⟩ ∧ Grew w w' ∧ ∀ j, F j → w.heap.size ≤ j := by
  obtain ⟨i0, hi0, hz0, hz1, hz2⟩ := info_parts rowInfo
  have qm : ∀ u : World, (Instr.makeMap 82 none).run Tryd.prog u = .ok (.map (some u.heap.size)) (u.alloc (.map #[] 0)) := fun u => run_makeMap _ u
  have a1 : decide ((n : Int) < 1) = false := decide_eq_false (by omega)
  have a2 : decide ((4096 : Int) < n) = false := decide_eq_false (by omega)
  have a3 : decide ((sz : Int) < 16) = false := decide_eq_false (by omega)
  have a4 : decide ((4096 : Int) < sz) = false := decide_eq_false (by omega)
  obtain ⟨d, hd⟩ : ∃ d, w.heap.size + 1 = d := ⟨_, rfl⟩
  obtain ⟨W1, hW1⟩ : ∃ W1, (w.alloc (.map #[] 0)).alloc (.cells #[.int .i64 sz, .slice none 0 0, .map (some w.heap.size), .bool false, .int .i64 0, .bool false, .int .i64 0] 84) = W1 := ⟨_, rfl⟩
  have HJ0 := Lib.hid (show NewJ w W1 d sz 0 none 0 w.heap.size [] from hW1 ▸ hd ▸ ⟨by have := Blk.new (w.alloc (.map #[] 0)) 84 #[.int .i64 sz, .slice none 0 0, .map (some w.heap.size), .bool false, .int .i64 0, .bool false, .int .i64 0]; simpa using this, World.ownsRow_nil _ _ _ _, (IMap.made _ _ _).grew ((Chg.refl _ _).alloc _), fun i hi => by omega, ((Chg.refl _ _).alloc _).alloc _, by simp; omega⟩)
  have HW := Lib.hid (And.intro hW1 hd)
  clear hW1 hd
  go_enter Tryd.func19, Tryd.ntmps19
  go_wp2
  rw [HW.out.1, HW.out.2]
  go_loopw [25] (fun i wr => ∃ (k : Nat) (A : Option Addr) (c M : Nat) (vs : List Value), k ≤ n ∧ i = .int .i64 k ∧ NewJ w wr d sz k A c M vs) (fun i _ => n - (intOf i).toNat)
  case atStart => exact ⟨0, none, 0, _, [], Nat.zero_le _, rfl, HJ0.out⟩
  case round =>
    obtain ⟨k, A, c, M, vs, hk, rfl, hJ⟩ := hrel
    have HN := Lib.hid hJ
    obtain ⟨c0, f0, s0⟩ := hJ.blk.facts
    clear hJ
    by_cases hlt : k < n
    · have hvl : vs.length = k := by have := HN.out.row.1; simpa using this
      go_wp2
      obtain ⟨w3, hr3, ho3, hg3, hz3⟩ := make_bytes sz wr.drew (by omega)
      have HM := Lib.hid (And.intro ho3 (show Grew wr w3 from Grew.trans ((Chg.refl NoF wr).drew) hg3))
      have hz3' : w3.heap.size = wr.heap.size + 1 := by simpa using hz3
      have hr3' : (Instr.makeSlice 29 (.int .i64 sz) (.int .i64 sz)).run Tryd.prog wr.drew = .ok (.slice (some ⟨wr.heap.size, 0, none⟩) sz sz) w3 := by simpa using hr3
      have hnc : (w3.alloc (.cells #[.slice (some ⟨wr.heap.size, 0, none⟩) sz sz] 29)).cell? ⟨wr.heap.size + 1, 0 + 0, none⟩ = some (.slice (some ⟨wr.heap.size, 0, none⟩) sz sz) := by rw [← hz3']; exact ((Blk.new w3 29 #[.slice (some ⟨wr.heap.size, 0, none⟩) sz sz]).cell 0).trans rfl
      have HG34 := Lib.hid (show Grew wr (w3.alloc (.cells #[.slice (some ⟨wr.heap.size, 0, none⟩) sz sz] 29)) from HM.out.2.alloc _)
      have HS34 := Lib.hid (show Grew w3 (w3.alloc (.cells #[.slice (some ⟨wr.heap.size, 0, none⟩) sz sz] 29)) from (Chg.refl _ _).alloc _)
      have HOw := Lib.hid (own_grew HN.out.row HG34.out)
      have c01 := c0 1
      simp only [List.getElem?_toArray, List.getElem?_cons_zero, List.getElem?_cons_succ] at c01
      have c31 := (HM.out.2.cell (p := ⟨d, 1, none⟩) s0 id).trans c01
      have s3 := Nat.lt_of_lt_of_le s0 HM.out.2.size
      clear ho3 hg3 hr3 hz3 c0 f0
      refine wp_region_held_drew (S := fun _ => True) (by kernel_rfl) trivial (fun _ => ?_)
      refine wpAnyH_take (i := 0) (v := ?_) rfl (by kernel_rfl) (by kernel_rfl) (by kernel_rfl) (fun _ _ _ h => h) (Or.inl ⟨by rfl, ?_⟩) trivial ?_
      rotate_left
      · (intro w hSw; (try dsimp only at hSw); go_simp) <;> with_reducible rfl
      (try simp only [Act.put, List.setIfInBounds_toArray, List.set_cons_zero, List.set_cons_succ])
      refine wpAnyH_take (i := 1) (v := ?_) rfl (by kernel_rfl) (by kernel_rfl) (by kernel_rfl) (fun _ _ _ h => h) (Or.inl ⟨by rfl, ?_⟩) trivial ?_
      rotate_left
      · (intro w hSw; (try dsimp only at hSw); go_simp) <;> with_reducible rfl
      (try simp only [Act.put, List.setIfInBounds_toArray, List.set_cons_zero, List.set_cons_succ])
      refine wpAnyH_take (i := 2) (v := ?_) rfl (by kernel_rfl) (by kernel_rfl) (by kernel_rfl) (fun _ _ _ h => h) (Or.inl ⟨by rfl, ?_⟩) trivial ?_
      rotate_left
      · (intro w hSw; (try dsimp only at hSw); go_simp) <;> with_reducible rfl
      (try simp only [Act.put, List.setIfInBounds_toArray, List.set_cons_zero, List.set_cons_succ])
      refine wpAnyH_take (i := 3) (v := ?_) rfl (by kernel_rfl) (by kernel_rfl) (by kernel_rfl) (fun _ _ _ h => h) (Or.inl ⟨by rfl, ?_⟩) trivial ?_
      rotate_left
      · (intro w hSw; (try dsimp only at hSw); go_simp) <;> with_reducible rfl
      (try simp only [Act.put, List.setIfInBounds_toArray, List.set_cons_zero, List.set_cons_succ])
      refine wpAnyH_take (i := 5) (v := ?_) rfl (by kernel_rfl) (by kernel_rfl) (by kernel_rfl) (fun _ _ _ h => h) (Or.inl ⟨by rfl, ?_⟩) trivial ?_
      rotate_left
      · (intro w hSw; (try dsimp only at hSw); go_simp) <;> with_reducible rfl
      (try simp only [Act.put, List.setIfInBounds_toArray, List.set_cons_zero, List.set_cons_succ])
      refine wpAnyH_ready (rs := [4, 6]) (by kernel_rfl) (by simp) ?_
      refine (AllReadyH.cons rfl (fun K hK => ?_) (AllReadyH.cons rfl (fun K hK => ?_) AllReadyH.nil))
      · go_simp
        refine hK.out _ _ trivial (fun _ => ?_)
        clear hK K
        (try simp only [Act.put, List.setIfInBounds_toArray, List.set_cons_zero, List.set_cons_succ])
        refine wpAnyH_ready (rs := [6]) (by kernel_rfl) (by simp) ?_
        refine (AllReadyH.cons rfl (fun K hK => ?_) AllReadyH.nil)
        · go_simp
          refine hK.out _ _ trivial (fun _ => ?_)
          clear hK K
          (try simp only [Act.put, List.setIfInBounds_toArray, List.set_cons_zero, List.set_cons_succ])
          refine wpAnyH_ready (rs := [7]) (by kernel_rfl) (by simp) ?_
          refine (AllReadyH.cons rfl (fun K hK => ?_) AllReadyH.nil)
          · go_simp
            refine hK.out _ _ trivial (fun _ => ?_)
            clear hK K
            (try simp only [Act.put, List.setIfInBounds_toArray, List.set_cons_zero, List.set_cons_succ])
            refine wpAnyH_ready (rs := [8]) (by kernel_rfl) (by simp) ?_
            refine (AllReadyH.cons rfl (fun K hK => ?_) AllReadyH.nil)
            · refine step_append_lies _ (by rfl) _ _ _ (by rfl) w.heap.size 29 i0 _ 1 24 Tryd.underlying47 hi0 hz0 hz1 hz2 rfl (by omega) (.slice A k c) k vs (by rfl) HOw.out ⟨wr.heap.size + 1, 0, none⟩ 1 1 [.slice (some ⟨wr.heap.size, 0, none⟩) sz sz] (by rfl) (by rfl) (by intro j u hu; cases j with | zero => rw [Addr.add_lit]; cases hu; exact hnc | succ j => simp at hu) (by simp [Value.oneCell']) (by omega) (by simp only [maxLen]; omega) (by omega) (by have := HN.out.grew.size; simp [hz3']; omega) (wr.heap.size + 1 + 1) (by simp [hz3']) ?_
              intro g cap w5 ho5 hg5 hlie hlt5
              have hne : d ≠ g ∧ ∀ j, (Value.slice A k c).ownBlock = some j → j ≠ d := by
                refine ⟨fun e => ?_, fun j hj e => own_blk_ne (own_grew HN.out.row HG34.out) (HN.out.blk.grew HG34.out) (by decide) (e ▸ hj)⟩
                rcases hlie with h | h
                · exact own_blk_ne (own_grew HN.out.row HG34.out) (HN.out.blk.grew HG34.out) (by decide) (e ▸ h)
                · have := HN.out.blk.lt; omega
              have HO5 := Lib.hid (And.intro ho5 (And.intro hg5 hne))
              have HB5 := Lib.hid (show Blk w5 d 84 #[.int .i64 sz, .slice A k c, .map (some M), .bool false, .int .i64 0, .bool false, .int .i64 0] from (HN.out.blk.grew HG34.out).grown hg5 (fun e => hne.2 _ e.symm rfl))
              have f5 := HB5.out.frozen 1
              have c5 := HB5.out.cell 1
              have s5 := HB5.out.lt
              clear ho5 hg5 hlie hne
              refine hK.out _ _ trivial (fun _ => ?_)
              clear hK K
              (try simp only [Act.put, List.setIfInBounds_toArray, List.set_cons_zero, List.set_cons_succ])
              refine wpAnyH_take (i := 9) (v := ?_) rfl (by kernel_rfl) (by kernel_rfl) (by kernel_rfl) (fun _ _ _ h => h) (Or.inl ⟨by rfl, ?_⟩) trivial ?_
              rotate_left
              · (intro w hSw; (try dsimp only at hSw); go_simp) <;> with_reducible rfl
              (try simp only [Act.put, List.setIfInBounds_toArray, List.set_cons_zero, List.set_cons_succ])
              refine wpAnyH_take (i := 10) (v := ?_) rfl (by kernel_rfl) (by kernel_rfl) (by kernel_rfl) (fun _ _ _ h => h) (Or.inl ⟨by rfl, ?_⟩) trivial ?_
              rotate_left
              · (intro w hSw; (try dsimp only at hSw); go_simp) <;> with_reducible rfl
              (try simp only [Act.put, List.setIfInBounds_toArray, List.set_cons_zero, List.set_cons_succ])
              refine wpAnyH_ready (rs := [11]) (by kernel_rfl) (by simp) ?_
              refine AllReadyH.cons rfl (fun K hK => ?_) AllReadyH.nil
              go_simp
              refine hK.out _ _ trivial (fun _ => ?_)
              clear hK K
              (try simp only [Act.put, List.setIfInBounds_toArray, List.set_cons_zero, List.set_cons_succ])
              refine wpAnyH_done (by kernel_rfl) ?_ _
              go_wp2
              exact ⟨⟨k + 1, _, cap, M, _, by omega, by simp, HN.out.more HM.out.1 HM.out.2 HS34.out HG34.out HO5.out.1 HO5.out.2.1 HO5.out.2.2 rfl⟩, by simp [intOf]; omega⟩
      · go_simp
        refine hK.out _ _ trivial (fun _ => ?_)
        clear hK K
        (try simp only [Act.put, List.setIfInBounds_toArray, List.set_cons_zero, List.set_cons_succ])
        refine wpAnyH_ready (rs := [4, 7]) (by kernel_rfl) (by simp) ?_
        refine (AllReadyH.cons rfl (fun K hK => ?_) (AllReadyH.cons rfl (fun K hK => ?_) AllReadyH.nil))
        · go_simp
          refine hK.out _ _ trivial (fun _ => ?_)
          clear hK K
          (try simp only [Act.put, List.setIfInBounds_toArray, List.set_cons_zero, List.set_cons_succ])
          refine wpAnyH_ready (rs := [7]) (by kernel_rfl) (by simp) ?_
          refine (AllReadyH.cons rfl (fun K hK => ?_) AllReadyH.nil)
          · go_simp
            refine hK.out _ _ trivial (fun _ => ?_)
            clear hK K
            (try simp only [Act.put, List.setIfInBounds_toArray, List.set_cons_zero, List.set_cons_succ])
            refine wpAnyH_ready (rs := [8]) (by kernel_rfl) (by simp) ?_
            refine (AllReadyH.cons rfl (fun K hK => ?_) AllReadyH.nil)
            · refine step_append_lies _ (by rfl) _ _ _ (by rfl) w.heap.size 29 i0 _ 1 24 Tryd.underlying47 hi0 hz0 hz1 hz2 rfl (by omega) (.slice A k c) k vs (by rfl) HOw.out ⟨wr.heap.size + 1, 0, none⟩ 1 1 [.slice (some ⟨wr.heap.size, 0, none⟩) sz sz] (by rfl) (by rfl) (by intro j u hu; cases j with | zero => rw [Addr.add_lit]; cases hu; exact hnc | succ j => simp at hu) (by simp [Value.oneCell']) (by omega) (by simp only [maxLen]; omega) (by omega) (by have := HN.out.grew.size; simp [hz3']; omega) (wr.heap.size + 1 + 1) (by simp [hz3']) ?_
              intro g cap w5 ho5 hg5 hlie hlt5
              have hne : d ≠ g ∧ ∀ j, (Value.slice A k c).ownBlock = some j → j ≠ d := by
                refine ⟨fun e => ?_, fun j hj e => own_blk_ne (own_grew HN.out.row HG34.out) (HN.out.blk.grew HG34.out) (by decide) (e ▸ hj)⟩
                rcases hlie with h | h
                · exact own_blk_ne (own_grew HN.out.row HG34.out) (HN.out.blk.grew HG34.out) (by decide) (e ▸ h)
                · have := HN.out.blk.lt; omega
              have HO5 := Lib.hid (And.intro ho5 (And.intro hg5 hne))
              have HB5 := Lib.hid (show Blk w5 d 84 #[.int .i64 sz, .slice A k c, .map (some M), .bool false, .int .i64 0, .bool false, .int .i64 0] from (HN.out.blk.grew HG34.out).grown hg5 (fun e => hne.2 _ e.symm rfl))
              have f5 := HB5.out.frozen 1
              have c5 := HB5.out.cell 1
              have s5 := HB5.out.lt
              clear ho5 hg5 hlie hne
              refine hK.out _ _ trivial (fun _ => ?_)
              clear hK K
              (try simp only [Act.put, List.setIfInBounds_toArray, List.set_cons_zero, List.set_cons_succ])
              refine wpAnyH_take (i := 9) (v := ?_) rfl (by kernel_rfl) (by kernel_rfl) (by kernel_rfl) (fun _ _ _ h => h) (Or.inl ⟨by rfl, ?_⟩) trivial ?_
              rotate_left
              · (intro w hSw; (try dsimp only at hSw); go_simp) <;> with_reducible rfl
              (try simp only [Act.put, List.setIfInBounds_toArray, List.set_cons_zero, List.set_cons_succ])
              refine wpAnyH_take (i := 10) (v := ?_) rfl (by kernel_rfl) (by kernel_rfl) (by kernel_rfl) (fun _ _ _ h => h) (Or.inl ⟨by rfl, ?_⟩) trivial ?_
              rotate_left
              · (intro w hSw; (try dsimp only at hSw); go_simp) <;> with_reducible rfl
              (try simp only [Act.put, List.setIfInBounds_toArray, List.set_cons_zero, List.set_cons_succ])
              refine wpAnyH_ready (rs := [11]) (by kernel_rfl) (by simp) ?_
              refine AllReadyH.cons rfl (fun K hK => ?_) AllReadyH.nil
              go_simp
              refine hK.out _ _ trivial (fun _ => ?_)
              clear hK K
              (try simp only [Act.put, List.setIfInBounds_toArray, List.set_cons_zero, List.set_cons_succ])
              refine wpAnyH_done (by kernel_rfl) ?_ _
              go_wp2
              exact ⟨⟨k + 1, _, cap, M, _, by omega, by simp, HN.out.more HM.out.1 HM.out.2 HS34.out HG34.out HO5.out.1 HO5.out.2.1 HO5.out.2.2 rfl⟩, by simp [intOf]; omega⟩
        · go_simp
          refine hK.out _ _ trivial (fun _ => ?_)
          clear hK K
          (try simp only [Act.put, List.setIfInBounds_toArray, List.set_cons_zero, List.set_cons_succ])
          refine wpAnyH_ready (rs := [4]) (by kernel_rfl) (by simp) ?_
          refine (AllReadyH.cons rfl (fun K hK => ?_) AllReadyH.nil)
          · go_simp
            refine hK.out _ _ trivial (fun _ => ?_)
            clear hK K
            (try simp only [Act.put, List.setIfInBounds_toArray, List.set_cons_zero, List.set_cons_succ])
            refine wpAnyH_ready (rs := [8]) (by kernel_rfl) (by simp) ?_
            refine (AllReadyH.cons rfl (fun K hK => ?_) AllReadyH.nil)
            · refine step_append_lies _ (by rfl) _ _ _ (by rfl) w.heap.size 29 i0 _ 1 24 Tryd.underlying47 hi0 hz0 hz1 hz2 rfl (by omega) (.slice A k c) k vs (by rfl) HOw.out ⟨wr.heap.size + 1, 0, none⟩ 1 1 [.slice (some ⟨wr.heap.size, 0, none⟩) sz sz] (by rfl) (by rfl) (by intro j u hu; cases j with | zero => rw [Addr.add_lit]; cases hu; exact hnc | succ j => simp at hu) (by simp [Value.oneCell']) (by omega) (by simp only [maxLen]; omega) (by omega) (by have := HN.out.grew.size; simp [hz3']; omega) (wr.heap.size + 1 + 1) (by simp [hz3']) ?_
              intro g cap w5 ho5 hg5 hlie hlt5
              have hne : d ≠ g ∧ ∀ j, (Value.slice A k c).ownBlock = some j → j ≠ d := by
                refine ⟨fun e => ?_, fun j hj e => own_blk_ne (own_grew HN.out.row HG34.out) (HN.out.blk.grew HG34.out) (by decide) (e ▸ hj)⟩
                rcases hlie with h | h
                · exact own_blk_ne (own_grew HN.out.row HG34.out) (HN.out.blk.grew HG34.out) (by decide) (e ▸ h)
                · have := HN.out.blk.lt; omega
              have HO5 := Lib.hid (And.intro ho5 (And.intro hg5 hne))
              have HB5 := Lib.hid (show Blk w5 d 84 #[.int .i64 sz, .slice A k c, .map (some M), .bool false, .int .i64 0, .bool false, .int .i64 0] from (HN.out.blk.grew HG34.out).grown hg5 (fun e => hne.2 _ e.symm rfl))
              have f5 := HB5.out.frozen 1
              have c5 := HB5.out.cell 1
              have s5 := HB5.out.lt
              clear ho5 hg5 hlie hne
              refine hK.out _ _ trivial (fun _ => ?_)
              clear hK K
              (try simp only [Act.put, List.setIfInBounds_toArray, List.set_cons_zero, List.set_cons_succ])
              refine wpAnyH_take (i := 9) (v := ?_) rfl (by kernel_rfl) (by kernel_rfl) (by kernel_rfl) (fun _ _ _ h => h) (Or.inl ⟨by rfl, ?_⟩) trivial ?_
              rotate_left
              · (intro w hSw; (try dsimp only at hSw); go_simp) <;> with_reducible rfl
              (try simp only [Act.put, List.setIfInBounds_toArray, List.set_cons_zero, List.set_cons_succ])
              refine wpAnyH_take (i := 10) (v := ?_) rfl (by kernel_rfl) (by kernel_rfl) (by kernel_rfl) (fun _ _ _ h => h) (Or.inl ⟨by rfl, ?_⟩) trivial ?_
              rotate_left
              · (intro w hSw; (try dsimp only at hSw); go_simp) <;> with_reducible rfl
              (try simp only [Act.put, List.setIfInBounds_toArray, List.set_cons_zero, List.set_cons_succ])
              refine wpAnyH_ready (rs := [11]) (by kernel_rfl) (by simp) ?_
              refine AllReadyH.cons rfl (fun K hK => ?_) AllReadyH.nil
              go_simp
              refine hK.out _ _ trivial (fun _ => ?_)
              clear hK K
              (try simp only [Act.put, List.setIfInBounds_toArray, List.set_cons_zero, List.set_cons_succ])
              refine wpAnyH_done (by kernel_rfl) ?_ _
              go_wp2
              exact ⟨⟨k + 1, _, cap, M, _, by omega, by simp, HN.out.more HM.out.1 HM.out.2 HS34.out HG34.out HO5.out.1 HO5.out.2.1 HO5.out.2.2 rfl⟩, by simp [intOf]; omega⟩
    · obtain rfl : k = n := by omega
      go_wp2
      go_ret
      have hN := HN.out
      refine ⟨d, fun j => w.heap.size ≤ j ∧ j < wr.heap.size, rfl, ⟨⟨A, c, M, 0, vs, fun _ => none, hN.blk, own_base hN.row (Nat.zero_le _), hN.map, fun i hi => ?_, fun _ _ => rfl, (fun i bs h => (by cases h)), ⟨⟨hN.new.1, hN.blk.lt⟩, ⟨hN.new.2.1, hN.new.2.2⟩, fun a ha => ?_⟩, h1, h2, h3, h4, Nat.zero_le _⟩, fun j hj => hj.2⟩, hN.grew, fun j hj => hj.1⟩
      · obtain ⟨v, g1, g2⟩ := hN.dat i hi
        exact ⟨v, g1, g2, by simp⟩
      · subst ha
        obtain ⟨g, rfl, hg⟩ := own_some hN.row
        exact ⟨(hN.row.lt g rfl).1, hg⟩

end Go.Proofs.YtjlfnebkibgfmaaDoor

/- The pager: Write with no room; Read. -/
namespace Go.Proofs.YtjlfnebkibgfmaaDoor
open Go.RowKit Go.Maps

set_option maxRecDepth 100000 in
set_option maxHeartbeats 6400000 in
theorem gwrite_full (p i s : Nat) (nb : Nat) (Ab : Option Addr) (cb : Nat) (F : Nat → Prop) (X : Gp) (o : Cg) (w : World) (h : GS w p F X) (hr : X.rdy = 0) (hx : X.op = some o) (hz : X.Sz) (hi : X.table[i]? = some s) (hs : s ≠ 0) (hf : o.fresh s = false) (hsn : s < 4096) (hn : X.D.n ≤ 4096) (hm : X.room < (o.more (i / X.row) 1 : Nat)) (hb : nb = X.D.sz) :
    Calls Tryd.prog 10 #[.pointer (some ⟨p, 0, none⟩), .int .i64 i, .slice Ab nb cb] w fun e' w' => e' = .returned (.int .i64 21) ∧ Grew w w' := by
  have hrd := gready_any p F X w h
  rw [hr] at hrd
  have hus := gused_in p i s F X w h (by have := hz.tab.2; omega) hi
  rw [show (s != 0) = true from by simpa using hs] at hus
  have hsz := gsize_any p F X w h
  have hil : i < X.table.length := (List.getElem?_eq_some_iff.1 hi).1
  obtain ⟨k, hk⟩ : ∃ k, i / X.row = k := ⟨_, rfl⟩
  have HFL := Lib.hid h
  obtain ⟨L, d, b, A, ca, vp, vt, vo, h, hF⟩ := h
  obtain ⟨c0, f0, s0⟩ := h.blk.facts
  have ho := h.opn
  rw [hx] at ho
  obtain ⟨c, vw, M1, s1, vl, M2, s2, rfl, hi2⟩ := ho
  obtain ⟨g, ct, rfl, hgl, hlg, hce, hfe⟩ := h.entry hi
  have hdz := h.dsk.sml
  have htf := fun u (hu : Grew w u) => gtouch_full p i k 1 F X o u (HFL.out.grew hu) hx (by have := hz.free; omega) (by have := hz.row; omega) hk (by have := hz.tab.2; omega) (by omega) (by rw [← hk]; exact hm)
  have u1 : (0 : Int) ≤ (i : Int) := by omega
  have u2 : (i : Int) < (X.table.length : Int) := by omega
  have hlk : (Instr.lookup 64 (.map (some M1)) (.int .i64 s) false).run Tryd.prog w.drew = .ok (.bool false) w.drew := by
    have := (hi2.fr.grew ((Chg.refl _ w).drew)).look (t := 64) kInt Tryd.underlying3 Tryd.underlying64 (zBool w.drew) (i := (s : Int)) (wfInt (by omega) (by omega))
    rwa [mB_getD, hf] at this
  have hp4 : w.drew.cell? ⟨p, 4, none⟩ = some (.slice (some ⟨g, 0, none⟩) X.table.length ct) := (h.blk.drew).cell 4
  have hp6 : w.drew.cell? ⟨p, 6, none⟩ = some (.pointer (some ⟨c, 0, none⟩)) := (h.blk.drew).cell 6
  have hc1 : w.drew.cell? ⟨c, 1, none⟩ = some (.map (some M1)) := (hi2.blk.drew).cell 1
  have hgi : w.drew.cell? ⟨g, i, none⟩ = some (.int .i64 s) := hce
  have e3 : ((nb : Int) != (X.D.sz : Int)) = false := by simp [hb]
  have H := Lib.hid (And.intro hrd (And.intro hus (And.intro hsz htf)))
  clear h hr hrd hus hsz hx hz hi hs hf hi2 htf hF c0 f0 hce hm hk hb
  go_enter Tryd.func10, Tryd.ntmps10
  go_wp2_with (first
    | (go_at_call 22; (refine H.out.1.mono ?_); rintro e w1 ⟨rfl, rfl⟩)
    | (go_at_call 25; (refine H.out.2.1.mono ?_); rintro e w1 ⟨rfl, rfl⟩)
    | (go_at_call 26; (refine H.out.2.2.1.mono ?_); rintro e w1 ⟨rfl, rfl⟩))
  refine wp_region_held_drew (S := fun w' => w'.cell? ⟨p, 4, none⟩ = some (.slice (some ⟨g, 0, none⟩) X.table.length ct) ∧ w'.cell? ⟨p, 6, none⟩ = some (.pointer (some ⟨c, 0, none⟩)) ∧ w'.cell? ⟨c, 1, none⟩ = some (.map (some M1)) ∧ w'.cell? ⟨g, i, none⟩ = some (.int .i64 s) ∧ (Instr.lookup 64 (.map (some M1)) (.int .i64 s) false).run Tryd.prog w' = .ok (.bool false) w') (by kernel_rfl) ⟨hp4, hp6, hc1, hgi, hlk⟩ (fun hHeld => ?_)
  refine wpAnyH_take (i := 0) (v := ?_) rfl (by kernel_rfl) (by kernel_rfl) (by kernel_rfl) (fun _ _ _ h => h) (Or.inl ⟨by rfl, ?_⟩) hHeld ?_
  rotate_left
  · (intro w hSw; (try dsimp only at hSw); go_simp) <;> with_reducible rfl
  (try simp only [Act.put, List.setIfInBounds_toArray, List.set_cons_zero, List.set_cons_succ, List.getElem_toArray, List.getElem_cons_zero, List.getElem_cons_succ])
  refine wpAnyH_take (i := 1) (v := ?_) rfl (by kernel_rfl) (by kernel_rfl) (by kernel_rfl) (fun _ _ _ h => h) (Or.inl ⟨by rfl, ?_⟩) hHeld ?_
  rotate_left
  · (intro w hSw; (try dsimp only at hSw); go_simp) <;> with_reducible rfl
  (try simp only [Act.put, List.setIfInBounds_toArray, List.set_cons_zero, List.set_cons_succ, List.getElem_toArray, List.getElem_cons_zero, List.getElem_cons_succ])
  refine wpAnyH_take (i := 2) (v := ?_) rfl (by kernel_rfl) (by kernel_rfl) (by kernel_rfl) (fun _ _ _ h => h) (Or.inl ⟨by rfl, ?_⟩) hHeld ?_
  rotate_left
  · (intro w hSw; (try dsimp only at hSw); go_simp) <;> with_reducible rfl
  (try simp only [Act.put, List.setIfInBounds_toArray, List.set_cons_zero, List.set_cons_succ, List.getElem_toArray, List.getElem_cons_zero, List.getElem_cons_succ])
  refine wpAnyH_take (i := 3) (v := ?_) rfl (by kernel_rfl) (by kernel_rfl) (by kernel_rfl) (fun _ _ _ h => h) (Or.inl ⟨by rfl, ?_⟩) hHeld ?_
  rotate_left
  · (intro w hSw; (try dsimp only at hSw); go_simp) <;> with_reducible rfl
  (try simp only [Act.put, List.setIfInBounds_toArray, List.set_cons_zero, List.set_cons_succ, List.getElem_toArray, List.getElem_cons_zero, List.getElem_cons_succ])
  refine wpAnyH_take (i := 4) (v := ?_) rfl (by kernel_rfl) (by kernel_rfl) (by kernel_rfl) (fun _ _ _ h => h) (Or.inl ⟨by rfl, ?_⟩) hHeld ?_
  rotate_left
  · (intro w hSw; (try dsimp only at hSw); go_simp) <;> with_reducible rfl
  (try simp only [Act.put, List.setIfInBounds_toArray, List.set_cons_zero, List.set_cons_succ, List.getElem_toArray, List.getElem_cons_zero, List.getElem_cons_succ])
  refine wpAnyH_take (i := 5) (v := ?_) rfl (by kernel_rfl) (by kernel_rfl) (by kernel_rfl) (fun _ _ _ h => h) (Or.inl ⟨by rfl, ?_⟩) hHeld ?_
  rotate_left
  · (intro w hSw; (try dsimp only at hSw); go_simp) <;> with_reducible rfl
  (try simp only [Act.put, List.setIfInBounds_toArray, List.set_cons_zero, List.set_cons_succ, List.getElem_toArray, List.getElem_cons_zero, List.getElem_cons_succ])
  refine wpAnyH_take (i := 6) (v := ?_) rfl (by kernel_rfl) (by kernel_rfl) (by kernel_rfl) (fun _ _ _ h => h) (Or.inl ⟨by rfl, ?_⟩) hHeld ?_
  rotate_left
  · (intro w hSw; (try dsimp only at hSw); go_simp) <;> with_reducible rfl
  (try simp only [Act.put, List.setIfInBounds_toArray, List.set_cons_zero, List.set_cons_succ, List.getElem_toArray, List.getElem_cons_zero, List.getElem_cons_succ])
  refine wpAnyH_take (i := 7) (v := ?_) rfl (by kernel_rfl) (by kernel_rfl) (by kernel_rfl) (fun _ _ _ h => h) (Or.inl ⟨by rfl, ?_⟩) hHeld ?_
  rotate_left
  · (intro w hSw; (try dsimp only at hSw); go_simp) <;> with_reducible rfl
  (try simp only [Act.put, List.setIfInBounds_toArray, List.set_cons_zero, List.set_cons_succ, List.getElem_toArray, List.getElem_cons_zero, List.getElem_cons_succ])
  refine wpAnyH_take (i := 8) (v := ?_) rfl (by kernel_rfl) (by kernel_rfl) (by kernel_rfl) (fun _ _ _ h => h) (Or.inl ⟨by rfl, ?_⟩) hHeld ?_
  rotate_left
  · (intro w hSw; (try dsimp only at hSw); go_simp) <;> with_reducible rfl
  (try simp only [Act.put, List.setIfInBounds_toArray, List.set_cons_zero, List.set_cons_succ, List.getElem_toArray, List.getElem_cons_zero, List.getElem_cons_succ])
  refine wpAnyH_take (i := 9) (v := ?_) rfl (by kernel_rfl) (by kernel_rfl) (by kernel_rfl) (fun _ _ _ h => h) (Or.inl ⟨by rfl, ?_⟩) hHeld ?_
  rotate_left
  · (intro w hSw; (try dsimp only at hSw); go_simp) <;> with_reducible rfl
  (try simp only [Act.put, List.setIfInBounds_toArray, List.set_cons_zero, List.set_cons_succ, List.getElem_toArray, List.getElem_cons_zero, List.getElem_cons_succ])
  refine wpAnyH_take (i := 10) (v := ?_) rfl (by kernel_rfl) (by kernel_rfl) (by kernel_rfl) (fun _ _ _ h => h) (Or.inl ⟨by rfl, ?_⟩) hHeld ?_
  rotate_left
  · (intro w hSw; (try dsimp only at hSw); go_simp) <;> with_reducible rfl
  (try simp only [Act.put, List.setIfInBounds_toArray, List.set_cons_zero, List.set_cons_succ, List.getElem_toArray, List.getElem_cons_zero, List.getElem_cons_succ])
  refine wpAnyH_take (i := 11) (v := ?_) rfl (by kernel_rfl) (by kernel_rfl) (by kernel_rfl) (fun _ _ _ h => h) (Or.inl ⟨by rfl, ?_⟩) hHeld ?_
  rotate_left
  · (intro w hSw; (try dsimp only at hSw); go_simp) <;> with_reducible rfl
  (try simp only [Act.put, List.setIfInBounds_toArray, List.set_cons_zero, List.set_cons_succ, List.getElem_toArray, List.getElem_cons_zero, List.getElem_cons_succ])
  refine wpAnyH_take (i := 12) (v := ?_) rfl (by kernel_rfl) (by kernel_rfl) (by kernel_rfl) (fun _ _ _ h => h) (Or.inl ⟨by rfl, ?_⟩) hHeld ?_
  rotate_left
  · (intro w hSw; (try dsimp only at hSw); go_simp) <;> with_reducible rfl
  (try simp only [Act.put, List.setIfInBounds_toArray, List.set_cons_zero, List.set_cons_succ, List.getElem_toArray, List.getElem_cons_zero, List.getElem_cons_succ])
  refine wpAnyH_take (i := 13) (v := ?_) rfl (by kernel_rfl) (by kernel_rfl) (by kernel_rfl) (fun _ _ _ h => h) (Or.inl ⟨by rfl, ?_⟩) hHeld ?_
  rotate_left
  · (intro w hSw; (try dsimp only at hSw); go_simp) <;> with_reducible rfl
  (try simp only [Act.put, List.setIfInBounds_toArray, List.set_cons_zero, List.set_cons_succ, List.getElem_toArray, List.getElem_cons_zero, List.getElem_cons_succ])
  refine wpAnyH_take (i := 14) (v := ?_) rfl (by kernel_rfl) (by kernel_rfl) (by kernel_rfl) (fun _ _ _ h => h) (Or.inl ⟨by rfl, ?_⟩) hHeld ?_
  rotate_left
  · (intro w hSw; (try dsimp only at hSw); go_simp) <;> with_reducible rfl
  (try simp only [Act.put, List.setIfInBounds_toArray, List.set_cons_zero, List.set_cons_succ, List.getElem_toArray, List.getElem_cons_zero, List.getElem_cons_succ])
  refine wpAnyH_ready (rs := [15]) (by kernel_rfl) (by simp) ?_
  refine AllReadyH.cons rfl (fun K hK => ?_) AllReadyH.nil
  go_simp
  refine hK.out _ _ hHeld (fun _ => ?_)
  clear hK K
  (try simp only [Act.put, List.setIfInBounds_toArray, List.set_cons_zero, List.set_cons_succ, List.getElem_toArray, List.getElem_cons_zero, List.getElem_cons_succ])
  refine wpAnyH_done (by kernel_rfl) ?_ _
  clear hHeld hlk hp4 hp6 hc1 hgi hgl hlg hfe s0
  go_wp2_with fail
  refine (H.out.2.2.2 _ ((Chg.refl _ _).drew)).mono ?_
  rintro e w1 ⟨rfl, hg1⟩
  have HG1 := Lib.hid (Grew.trans ((Chg.refl NoF w).drew) hg1)
  clear hg1
  go_wp2_with fail
  go_ret
  exact ⟨rfl, HG1.out⟩

theorem gread_none (p : Nat) (i : Int) (F : Nat → Prop) (X : Gp) (w : World) (h : GS w p F X) (hd : X.down = false) (hl : X.table.length ≤ 4096) (hu : X.usedB i = false) :
    Calls Tryd.prog 37 #[.pointer (some ⟨p, 0, none⟩), .int .i64 i] w fun e' w' => e' = .returned (.tuple #[.slice none 0 0, .int .i64 14]) ∧ w = w' := by
  have hus := gused_any p i F X w h (by omega)
  rw [hu] at hus
  obtain ⟨L, d, b, A, ca, vp, vt, vo, h, hF⟩ := h
  obtain ⟨c0, f0, s0⟩ := h.blk.facts
  rw [hd] at c0
  have H := Lib.hid hus
  clear h hF hd hu hus
  go_enter Tryd.func37, Tryd.ntmps37
  go_wp2_with (go_at_call 25; (refine H.out.mono ?_); rintro e w1 ⟨rfl, rfl⟩)
  go_ret2
  exact ⟨rfl, rfl⟩

set_option maxRecDepth 100000 in
set_option maxHeartbeats 800000 in
theorem gread_one (p i : Nat) (F : Nat → Prop) (X : Gp) (w : World) (h : GS w p F X) (hd : X.down = false) (hl : X.table.length ≤ 4096) (hi : X.table[i]? = some 1) :
    Calls Tryd.prog 37 #[.pointer (some ⟨p, 0, none⟩), .int .i64 i] w fun e' w' => OwnOut w w' 5 1 X.D.sz (bv (List.replicate X.D.sz 0)) (fun A c => .tuple #[.slice A X.D.sz c, .int .i64 0]) e' := by
  have hus := gused_in p i 1 F X w h (by omega) hi
  have hsz := gsize_any p F X w h
  obtain ⟨L, d, b, A, ca, vp, vt, vo, h, hF⟩ := h
  obtain ⟨c0, f0, s0⟩ := h.blk.facts
  rw [hd] at c0
  obtain ⟨g, ct, rfl, hgl, hlg, hce, hfe⟩ := h.entry hi
  have hil : i < X.table.length := (List.getElem?_eq_some_iff.1 hi).1
  have hdz := h.dsk.sml
  have u1 : (0 : Int) ≤ (i : Int) := by omega
  have u2 : (i : Int) < (X.table.length : Int) := by omega
  obtain ⟨w3, hr3, ho3, hg3, hz3⟩ := make_bytes X.D.sz w (by omega)
  have H := Lib.hid (And.intro hus (And.intro hsz (And.intro ho3 hg3)))
  clear h hF hd hus hsz ho3 hg3 hz3 hi
  go_enter Tryd.func37, Tryd.ntmps37
  go_wp2_with (first
    | (go_at_call 25; (refine H.out.1.mono ?_); rintro e w1 ⟨rfl, rfl⟩)
    | (go_at_call 26; (refine H.out.2.1.mono ?_); rintro e w1 ⟨rfl, rfl⟩))
  go_ret2
  exact OwnOut.mk _ _ rfl H.out.2.2.1 H.out.2.2.2

/-- What reading a page leaves. -/
def ReadOut (w w' : World) (p : Nat) (F : Nat → Prop) (X : Gp) (n : Nat) (xs : List Value) (e : Ending) : Prop :=
  ∃ A c, e = .returned (.tuple #[.slice A n c, .int .i64 0]) ∧ w'.ownsRow w.heap.size 5 1 (.slice A n c) n xs ∧ GS w' p F X ∧ Chg F w w' ∧ ∀ a, A = some a → ¬ F a.block

set_option maxRecDepth 100000 in
set_option maxHeartbeats 1600000 in
theorem gread_sec (p i s : Nat) (F : Nat → Prop) (X : Gp) (w : World) (h : GS w p F X) (hd : X.down = false) (hdd : X.D.down = false) (hl : X.table.length ≤ 4096) (hi : X.table[i]? = some s) (hs : 2 ≤ s) (hsn : s < X.D.n) :
    Calls Tryd.prog 37 #[.pointer (some ⟨p, 0, none⟩), .int .i64 i] w fun e' w' => ReadOut w w' p F X X.D.sz (bv (X.D.rd s)) e' := by
  have HGS := Lib.hid h
  have hus := gused_in p i s F X w h (by omega) hi
  rw [show (s != 0) = true from by simp; omega] at hus
  obtain ⟨L, d, b, A, ca, vp, vt, vo, h, hF⟩ := h
  obtain ⟨c0, f0, s0⟩ := h.blk.facts
  rw [hd] at c0
  obtain ⟨g, ct, rfl, hgl, hlg, hce, hfe⟩ := h.entry hi
  have hil : i < X.table.length := (List.getElem?_eq_some_iff.1 hi).1
  have u1 : (0 : Int) ≤ (i : Int) := by omega
  have u2 : (i : Int) < (X.table.length : Int) := by omega
  have e1 : ((s : Int) == 1) = false := by simp; omega
  have hp0 : w.drew.cell? ⟨p, 0, none⟩ = some (.pointer (some ⟨d, 0, none⟩)) := (h.blk.drew).cell 0
  have hp4 : w.drew.cell? ⟨p, 4, none⟩ = some (.slice (some ⟨g, 0, none⟩) X.table.length ct) := (h.blk.drew).cell 4
  have hgi : w.drew.cell? ⟨g, i, none⟩ = some (.int .i64 s) := hce
  have hdz := h.dsk.sml
  have hrd : Calls Tryd.prog 58 #[.pointer (some ⟨d, 0, none⟩), .int .i64 (s : Int)] w.drew fun e w2 => OwnOut w.drew w2 5 1 X.D.sz (bv (X.D.rd s)) (fun A c => .tuple #[.slice A X.D.sz c, .int .i64 0]) e := dread_ok d s _ X.D _ (h.dsk.grew ((Chg.refl _ _).drew)) hdd (by omega) (by omega)
  have H := Lib.hid (And.intro hus (And.intro hrd (And.intro h (And.intro hF hd))))
  clear h hF hd hus hrd hi
  go_enter Tryd.func37, Tryd.ntmps37
  go_wp2_with (go_at_call 25; (refine H.out.1.mono ?_); rintro e w1 ⟨rfl, rfl⟩)
  refine wp_region_held_drew (S := fun w' => w'.cell? ⟨p, 0, none⟩ = some (.pointer (some ⟨d, 0, none⟩)) ∧ w'.cell? ⟨p, 4, none⟩ = some (.slice (some ⟨g, 0, none⟩) X.table.length ct) ∧ w'.cell? ⟨g, i, none⟩ = some (.int .i64 s)) (by kernel_rfl) ⟨hp0, hp4, hgi⟩ (fun hHeld => ?_)
  refine wpAnyH_take (i := 0) (v := ?_) rfl (by kernel_rfl) (by kernel_rfl) (by kernel_rfl) (fun _ _ _ h => h) (Or.inl ⟨by rfl, ?_⟩) hHeld ?_
  rotate_left
  · (intro w hSw; (try dsimp only at hSw); go_simp) <;> with_reducible rfl
  (try simp only [Act.put, List.setIfInBounds_toArray, List.set_cons_zero, List.set_cons_succ, List.getElem_toArray, List.getElem_cons_zero, List.getElem_cons_succ])
  refine wpAnyH_take (i := 1) (v := ?_) rfl (by kernel_rfl) (by kernel_rfl) (by kernel_rfl) (fun _ _ _ h => h) (Or.inl ⟨by rfl, ?_⟩) hHeld ?_
  rotate_left
  · (intro w hSw; (try dsimp only at hSw); go_simp) <;> with_reducible rfl
  (try simp only [Act.put, List.setIfInBounds_toArray, List.set_cons_zero, List.set_cons_succ, List.getElem_toArray, List.getElem_cons_zero, List.getElem_cons_succ])
  refine wpAnyH_take (i := 2) (v := ?_) rfl (by kernel_rfl) (by kernel_rfl) (by kernel_rfl) (fun _ _ _ h => h) (Or.inl ⟨by rfl, ?_⟩) hHeld ?_
  rotate_left
  · (intro w hSw; (try dsimp only at hSw); go_simp) <;> with_reducible rfl
  (try simp only [Act.put, List.setIfInBounds_toArray, List.set_cons_zero, List.set_cons_succ, List.getElem_toArray, List.getElem_cons_zero, List.getElem_cons_succ])
  refine wpAnyH_take (i := 3) (v := ?_) rfl (by kernel_rfl) (by kernel_rfl) (by kernel_rfl) (fun _ _ _ h => h) (Or.inl ⟨by rfl, ?_⟩) hHeld ?_
  rotate_left
  · (intro w hSw; (try dsimp only at hSw); go_simp) <;> with_reducible rfl
  (try simp only [Act.put, List.setIfInBounds_toArray, List.set_cons_zero, List.set_cons_succ, List.getElem_toArray, List.getElem_cons_zero, List.getElem_cons_succ])
  refine wpAnyH_take (i := 4) (v := ?_) rfl (by kernel_rfl) (by kernel_rfl) (by kernel_rfl) (fun _ _ _ h => h) (Or.inl ⟨by rfl, ?_⟩) hHeld ?_
  rotate_left
  · (intro w hSw; (try dsimp only at hSw); go_simp) <;> with_reducible rfl
  (try simp only [Act.put, List.setIfInBounds_toArray, List.set_cons_zero, List.set_cons_succ, List.getElem_toArray, List.getElem_cons_zero, List.getElem_cons_succ])
  refine wpAnyH_take (i := 5) (v := ?_) rfl (by kernel_rfl) (by kernel_rfl) (by kernel_rfl) (fun _ _ _ h => h) (Or.inl ⟨by rfl, ?_⟩) hHeld ?_
  rotate_left
  · (intro w hSw; (try dsimp only at hSw); go_simp) <;> with_reducible rfl
  (try simp only [Act.put, List.setIfInBounds_toArray, List.set_cons_zero, List.set_cons_succ, List.getElem_toArray, List.getElem_cons_zero, List.getElem_cons_succ])
  refine wpAnyH_take (i := 6) (v := ?_) rfl (by kernel_rfl) (by kernel_rfl) (by kernel_rfl) (fun _ _ _ h => h) (Or.inl ⟨by rfl, ?_⟩) hHeld ?_
  rotate_left
  · (intro w hSw; (try dsimp only at hSw); go_simp) <;> with_reducible rfl
  (try simp only [Act.put, List.setIfInBounds_toArray, List.set_cons_zero, List.set_cons_succ, List.getElem_toArray, List.getElem_cons_zero, List.getElem_cons_succ])
  refine wpAnyH_take (i := 7) (v := ?_) rfl (by kernel_rfl) (by kernel_rfl) (by kernel_rfl) (fun _ _ _ h => h) (Or.inl ⟨by rfl, ?_⟩) hHeld ?_
  rotate_left
  · (intro w hSw; (try dsimp only at hSw); go_simp) <;> with_reducible rfl
  (try simp only [Act.put, List.setIfInBounds_toArray, List.set_cons_zero, List.set_cons_succ, List.getElem_toArray, List.getElem_cons_zero, List.getElem_cons_succ])
  refine wpAnyH_take (i := 8) (v := ?_) rfl (by kernel_rfl) (by kernel_rfl) (by kernel_rfl) (fun _ _ _ h => h) (Or.inl ⟨by rfl, ?_⟩) hHeld ?_
  rotate_left
  · (intro w hSw; (try dsimp only at hSw); go_simp) <;> with_reducible rfl
  (try simp only [Act.put, List.setIfInBounds_toArray, List.set_cons_zero, List.set_cons_succ, List.getElem_toArray, List.getElem_cons_zero, List.getElem_cons_succ])
  refine wpAnyH_take (i := 9) (v := ?_) rfl (by kernel_rfl) (by kernel_rfl) (by kernel_rfl) (fun _ _ _ h => h) (Or.inl ⟨by rfl, ?_⟩) hHeld ?_
  rotate_left
  · (intro w hSw; (try dsimp only at hSw); go_simp) <;> with_reducible rfl
  (try simp only [Act.put, List.setIfInBounds_toArray, List.set_cons_zero, List.set_cons_succ, List.getElem_toArray, List.getElem_cons_zero, List.getElem_cons_succ])
  refine wpAnyH_take (i := 10) (v := ?_) rfl (by kernel_rfl) (by kernel_rfl) (by kernel_rfl) (fun _ _ _ h => h) (Or.inl ⟨by rfl, ?_⟩) hHeld ?_
  rotate_left
  · (intro w hSw; (try dsimp only at hSw); go_simp) <;> with_reducible rfl
  (try simp only [Act.put, List.setIfInBounds_toArray, List.set_cons_zero, List.set_cons_succ, List.getElem_toArray, List.getElem_cons_zero, List.getElem_cons_succ])
  refine wpAnyH_ready (rs := [11]) (by kernel_rfl) (by simp) ?_
  refine AllReadyH.cons rfl (fun K hK => ?_) AllReadyH.nil
  go_simp
  refine H.out.2.1.mono ?_
  rintro e w3 ⟨A3, c3, rfl, ho3, hg3⟩
  have hHeld3 : w3.cell? ⟨p, 0, none⟩ = some (.pointer (some ⟨d, 0, none⟩)) ∧ w3.cell? ⟨p, 4, none⟩ = some (.slice (some ⟨g, 0, none⟩) X.table.length ct) ∧ w3.cell? ⟨g, i, none⟩ = some (.int .i64 s) :=
    ⟨(hg3.cell (p := ⟨p, 0, none⟩) s0 id).trans hp0, (hg3.cell (p := ⟨p, 4, none⟩) s0 id).trans hp4, (hg3.cell (p := ⟨g, i, none⟩) hgl id).trans hgi⟩
  have HR := Lib.hid (And.intro ho3 (Grew.trans ((Chg.refl NoF w).drew) hg3))
  clear ho3 hg3
  refine hK.out _ _ hHeld3 (fun _ => ?_)
  clear hK K
  (try simp only [Act.put, List.setIfInBounds_toArray, List.set_cons_zero, List.set_cons_succ, List.getElem_toArray, List.getElem_cons_zero, List.getElem_cons_succ])
  refine wpAnyH_take (i := 12) (v := ?_) rfl (by kernel_rfl) (by kernel_rfl) (by kernel_rfl) (fun _ _ _ h => h) (Or.inl ⟨by rfl, ?_⟩) hHeld3 ?_
  rotate_left
  · (intro w hSw; (try dsimp only at hSw); go_simp) <;> with_reducible rfl
  (try simp only [Act.put, List.setIfInBounds_toArray, List.set_cons_zero, List.set_cons_succ, List.getElem_toArray, List.getElem_cons_zero, List.getElem_cons_succ])
  refine wpAnyH_take (i := 13) (v := ?_) rfl (by kernel_rfl) (by kernel_rfl) (by kernel_rfl) (fun _ _ _ h => h) (Or.inl ⟨by rfl, ?_⟩) hHeld3 ?_
  rotate_left
  · (intro w hSw; (try dsimp only at hSw); go_simp) <;> with_reducible rfl
  (try simp only [Act.put, List.setIfInBounds_toArray, List.set_cons_zero, List.set_cons_succ, List.getElem_toArray, List.getElem_cons_zero, List.getElem_cons_succ])
  refine wpAnyH_take (i := 14) (v := ?_) rfl (by kernel_rfl) (by kernel_rfl) (by kernel_rfl) (fun _ _ _ h => h) (Or.inl ⟨by rfl, ?_⟩) hHeld3 ?_
  rotate_left
  · (intro w hSw; (try dsimp only at hSw); go_simp) <;> with_reducible rfl
  (try simp only [Act.put, List.setIfInBounds_toArray, List.set_cons_zero, List.set_cons_succ, List.getElem_toArray, List.getElem_cons_zero, List.getElem_cons_succ])
  refine wpAnyH_take (i := 15) (v := ?_) rfl (by kernel_rfl) (by kernel_rfl) (by kernel_rfl) (fun _ _ _ h => h) (Or.inl ⟨by rfl, ?_⟩) hHeld3 ?_
  rotate_left
  · (intro w hSw; (try dsimp only at hSw); go_simp) <;> with_reducible rfl
  (try simp only [Act.put, List.setIfInBounds_toArray, List.set_cons_zero, List.set_cons_succ, List.getElem_toArray, List.getElem_cons_zero, List.getElem_cons_succ])
  refine wpAnyH_ready (rs := [16]) (by kernel_rfl) (by simp) ?_
  refine AllReadyH.cons rfl (fun K hK => ?_) AllReadyH.nil
  go_simp
  refine hK.out _ _ hHeld3 (fun _ => ?_)
  clear hK K
  (try simp only [Act.put, List.setIfInBounds_toArray, List.set_cons_zero, List.set_cons_succ, List.getElem_toArray, List.getElem_cons_zero, List.getElem_cons_succ])
  refine wpAnyH_done (by kernel_rfl) ?_ _
  clear hHeld hHeld3 hp0 hp4 hgi c0 f0 s0 hgl hce hfe
  go_wp2_with fail
  refine (gnote_at p 0 _ _ (H.out.2.2.1.grew HR.out.2).blk (by show _ = some (Value.bool false); rw [← H.out.2.2.2.2]; rfl) rfl).mono ?_
  rintro e w4 ⟨rfl, hw4⟩
  have HW4 := Lib.hid hw4
  clear hw4
  go_wp2
  go_ret2
  have hG := H.out.2.2.1.grew HR.out.2
  have hfl := hG.flag false
  rw [HW4.out] at hfl
  have hc : Chg (fun j => L j = 1) w w4 := Grew.then HR.out.2 hfl.2.chg
  refine ⟨A3, c3, rfl, ?_, ⟨L, d, b, A, ca, vp, .slice (some ⟨g, 0, none⟩) X.table.length ct, vo, ?_, H.out.2.2.2.1⟩, hc.mono fun j _ e => (H.out.2.2.2.1 j).2 (by omega), fun a ha hf => ?_⟩
  · refine own_chg HR.out.1 hfl.2.chg fun j hj e => ?_
    have h1 := (HR.out.1.lt j hj).1
    have h2 := H.out.2.2.1.lt j (by omega)
    have h1' : w.heap.size ≤ j := h1
    omega
  · have e : ({ X with down := false } : Gp) = X := by rw [← H.out.2.2.2.2]
    rw [← e]
    exact hfl.1
  · subst ha
    have h1 := (HR.out.1.lt a.block rfl).1
    have h2 := H.out.2.2.1.lt a.block ((H.out.2.2.2.1 _).1 hf)
    have h1' : w.heap.size ≤ a.block := h1
    omega

end Go.Proofs.YtjlfnebkibgfmaaDoor

/- The pager, as its pages are: Begin, Alloc, Write, Read. -/
namespace Go.Proofs.YtjlfnebkibgfmaaDoor
open Go.RowKit Go.Maps

theorem setB_same {f : Nat → Bool} {k : Nat} (h : f k = true) : setB f k true = f := by
  funext j
  unfold setB
  by_cases e : j = k
  · subst e; rw [if_pos rfl, h]
  · rw [if_neg e]
section
variable {X : Gp} {o : Cg} {i j s : Nat} {bs : List Int}
theorem Gp.Ok.tcroom (h : X.Ok) (hx : X.op = some o) {k m : Nat} (hk : k < X.pages.length) (hm : (o.more k m : Nat) ≤ X.room) : cntN (setB X.tc k true) 64 + m ≤ cnt X.free := by
  have e : X.tc = o.touched := by simp only [Gp.tc, hx]
  have hr : X.room = (cnt X.free : Int) - (cntN o.touched 64 : Int) := by simp only [Gp.room, hx]
  rw [hr] at hm
  rw [e]
  unfold Cg.more at hm
  cases ht : o.touched k with
  | true => rw [ht] at hm; rw [setB_same ht]; simp at hm; omega
  | false =>
    rw [ht] at hm
    rw [cntN_yes _ (by have := h.inv.pg64; omega) ht]
    simp at hm
    omega
theorem Gp.Ok.tch (h : X.Ok) (hx : X.op = some o) (hi : i < X.table.length) {m : Nat} (hm : (o.more (i / X.row) m : Nat) ≤ X.room) :
    Inv X.D X.epoch X.pages X.table o.was X.free o.fresh o.left (setB o.touched (i / (X.D.sz / 2)) true) ∧ cntN (setB o.touched (i / (X.D.sz / 2)) true) 64 + m ≤ cnt X.free := by
  have hk := h.inv.part hi
  rw [h.row] at hm
  have hr := h.tcroom hx hk hm
  have hv := h.inv.tch hk (by omega)
  simp only [Gp.old, Gp.fr, Gp.lf, Gp.tc, hx] at hv hr
  exact ⟨hv, hr⟩
theorem Gp.view_was (hx : X.op = some o) : X.view.was = some (o.was.map (pk X.D fun _ => false)) := by simp [Gp.view, hx]
theorem Gp.Ok.alloc (h : X.Ok) (hx : X.op = some o) (hi : X.table[i]? = some 0) (hm : (o.more (i / X.row) 0 : Nat) ≤ X.room) : (X.alloc o i).Ok ∧ (X.alloc o i).view = X.view.put i .zero := by
  obtain ⟨h1, -⟩ := h.tch hx (List.getElem?_eq_some_iff.1 hi).1 hm
  have h2 := h1.zero (v := 1) hi (by omega) (by omega) (by simp [setB])
  have hr := h.row
  refine ⟨⟨?_, h.row, h.up⟩, ?_⟩
  · rw [← h.row] at h2
    exact h2
  · unfold Gp.view Rp.put Gp.alloc Gp.touch
    simp only [Gp.fr, Gp.tc, hx, Option.map_some, Rp.row]
    rw [List.map_set, show pk X.D o.fresh 1 = .zero from rfl, hr]
theorem pk_wr {D : Dk} {fr fr' : Nat → Bool} {j s : Nat} {bs : List Int} (hs : s ≠ j) (hf : fr' s = fr s) : pk (D.wr j bs) fr' s = pk D fr s := by
  unfold pk
  rw [Dk.wr_rd, if_neg hs, hf]
theorem Gp.Ok.fill (h : X.Ok) (hx : X.op = some o) (hi : X.table[i]? = some s) (hf : o.fresh s = false) (hj : X.free.getD j false = true) (hm : (o.more (i / X.row) 1 : Nat) ≤ X.room) (hb : ∀ x ∈ bs, 0 ≤ x ∧ x ≤ 255) :
    (X.fill o i s j bs).Ok ∧ (X.fill o i s j bs).view = X.view.put i (.new bs) := by
  obtain ⟨h1, h3⟩ := h.tch hx (List.getElem?_eq_some_iff.1 hi).1 hm
  obtain ⟨j1, j2, j3, j4, j5, j6⟩ := h1.free hj
  have h2 := (h1.write ⟨j2, j1, j3, j4⟩ hb).fill hi hf hj (by simp [setB, Dk.wr]) h3
  refine ⟨⟨?_, h.row, h.up⟩, ?_⟩
  · have e : (X.fill o i s j bs).tc = setB o.touched (i / (X.D.sz / 2)) true := by simp only [Gp.fill, Gp.tc, Cg.fill, h.row]
    rw [e]
    exact h2
  · unfold Gp.view Rp.put Gp.fill
    simp only [Gp.fr, Gp.tc, hx, Option.map_some, Rp.row, Cg.fill]
    have e1 : X.table.map (pk (X.D.wr j bs) (setB o.fresh j true)) = X.table.map (pk X.D o.fresh) := List.map_congr_left fun s hs => by
      obtain ⟨k, hk⟩ := List.mem_iff_getElem?.1 hs
      have hsj : s ≠ j := fun e => j6 k (e ▸ hk)
      exact pk_wr hsj (by simp [setB, hsj])
    have e2 : o.was.map (pk (X.D.wr j bs) fun _ => false) = o.was.map (pk X.D fun _ => false) := List.map_congr_left fun s hs => by
      obtain ⟨k, hk⟩ := List.mem_iff_getElem?.1 hs
      exact pk_wr (fun e => j4 k (e ▸ hk)) rfl
    have e3 : pk (X.D.wr j bs) (setB o.fresh j true) j = .new bs := by
      unfold pk
      rw [Dk.wr_rd, if_pos rfl, if_neg (by omega), if_neg (by omega)]
      simp [setB]
    rw [List.map_set, e1, e2, e3, h.row]
    rfl
theorem Gp.Ok.put (h : X.Ok) (hx : X.op = some o) (hi : X.table[i]? = some s) (hf : o.fresh s = true) (hb : ∀ x ∈ bs, 0 ≤ x ∧ x ≤ 255) : (X.put s bs).Ok ∧ (X.put s bs).view = X.view.put i (.new bs) := by
  have hv := h.inv
  simp only [Gp.old, Gp.fr, Gp.lf, Gp.tc, hx] at hv
  obtain ⟨j1, j2, j3, j4, -⟩ := hv.frr s hf
  have h2 := hv.write ⟨j2, j1, j3, j4⟩ hb
  have hil : i < X.table.length := (List.getElem?_eq_some_iff.1 hi).1
  have ht : o.touched (i / (X.D.sz / 2)) = true := hv.tcd i fun e => j4 i (e ▸ hi)
  refine ⟨⟨?_, h.row, h.up⟩, ?_⟩
  · simp only [Gp.put, Gp.old, Gp.fr, Gp.lf, Gp.tc, hx]
    exact h2
  · unfold Gp.view Rp.put Gp.put
    simp only [Gp.fr, Gp.tc, hx, Option.map_some, Rp.row]
    rw [setB_same ht]
    have e2 : o.was.map (pk (X.D.wr s bs) fun _ => false) = o.was.map (pk X.D fun _ => false) := List.map_congr_left fun q hq => by
      obtain ⟨k, hk⟩ := List.mem_iff_getElem?.1 hq
      exact pk_wr (fun e => j4 k (e ▸ hk)) rfl
    have e1 : X.table.map (pk (X.D.wr s bs) o.fresh) = (X.table.map (pk X.D o.fresh)).set i (.new bs) := by
      apply List.ext_getElem?
      intro k
      rw [set_at (by simpa using hil), List.getElem?_map, List.getElem?_map]
      by_cases e : k = i
      · subst e
        rw [if_pos rfl, hi]
        simp only [Option.map_some, Option.some.injEq]
        unfold pk
        rw [Dk.wr_rd, if_pos rfl, if_neg (by omega), if_neg (by omega), if_pos hf]
      · rw [if_neg e]
        cases hk : X.table[k]? with
        | none => rfl
        | some q =>
          simp only [Option.map_some, Option.some.injEq]
          exact pk_wr (fun e' => e (hv.jT k i q hk (e' ▸ hi) (by omega))) rfl
    rw [e1, e2]
    rfl
end

/-- A pager whose pages are these. -/
def GP (w : World) (p : Nat) (F : Nat → Prop) (x : Rp) : Prop := ∃ X, GS w p F X ∧ X.Ok ∧ X.view = x
def GPTo (w w' : World) (p : Nat) (F : Nat → Prop) (x : Rp) : Prop := To (fun w F => GP w p F x) w w' F
section
variable {w w' w2 : World} {p : Nat} {F : Nat → Prop} {X : Gp} {x : Rp}
theorem GP.chg {G : Nat → Prop} (h : GP w p F x) (hc : Chg G w w') (hG : ∀ j, F j → ¬ G j) (hG0 : ¬ G 0) : GP w' p F x := by
  obtain ⟨X, h1, h2⟩ := h
  exact ⟨X, h1.chg hc hG hG0, h2⟩
theorem GP.grew (h : GP w p F x) (hc : Grew w w') : GP w' p F x := h.chg hc (fun _ _ => id) id
theorem GP.lt (h : GP w p F x) : ∀ j, F j → j < w.heap.size := by
  obtain ⟨X, h1, -⟩ := h
  exact h1.lt
theorem GP.zero (h : GP w p F x) : ¬ F 0 := by
  obtain ⟨X, h1, -⟩ := h
  exact h1.zero
theorem GP.tab (h : GP w p F x) : TabAt 0 tab w := by
  obtain ⟨X, h1, -⟩ := h
  exact h1.tab
theorem GP.to (h : GP w p F x) (hc : Grew w w') : GPTo w w' p F x := To.of (h.grew hc) hc.chg
theorem GPTo.grew (h : GPTo w w' p F x) (hc : Grew w' w2) : GPTo w w2 p F x := To.grew h hc fun _ k => k.grew hc
theorem GTo.gp (h : GTo w w' p F X) (ho : X.Ok) (hv : X.view = x) : GPTo w w' p F x := To.imp h fun _ k => ⟨X, k, ho, hv⟩
theorem GP.szs (h : GP w p F x) : 8 ≤ x.n ∧ x.n ≤ 4096 ∧ 64 ≤ x.sz ∧ x.sz ≤ 4096 ∧ x.now.length = capN x.n x.sz ∧ x.now.length ≤ 4096 := by
  obtain ⟨X, -, h2, rfl⟩ := h
  have := h2.inv.sz
  have e : X.view.now.length = X.table.length := by simp [Gp.view]
  have h4 := h2.inv.tb4.1
  exact ⟨this.1, this.2.1, this.2.2.1, this.2.2.2, by rw [e]; exact h2.inv.lens.2.2.1, by rw [e]; exact h4⟩
end
/-- A page's entry. -/
theorem Gp.entry_no {X : Gp} {i : Nat} : X.view.now[i]? = some .no ↔ X.table[i]? = some 0 := by
  simp only [Gp.view, List.getElem?_map]
  cases h : X.table[i]? with
  | none => simp
  | some s =>
    simp only [Option.map_some, Option.some.injEq]
    constructor
    · intro e
      by_cases h0 : s = 0
      · exact h0
      · have := pk_used X.D X.fr s
        rw [e] at this
        simp [Pk.used, h0] at this
    · rintro rfl; rfl
theorem Gp.entry_used {X : Gp} {i : Nat} {c : Pk} (h : X.view.now[i]? = some c) (hu : c.used = true) : ∃ s, X.table[i]? = some s ∧ s ≠ 0 ∧ c = pk X.D X.fr s := by
  simp only [Gp.view, List.getElem?_map] at h
  cases ht : X.table[i]? with
  | none => rw [ht] at h; cases h
  | some s =>
    rw [ht] at h
    simp only [Option.map_some, Option.some.injEq] at h
    subst h
    rw [pk_used] at hu
    exact ⟨s, rfl, by simpa using hu, rfl⟩
theorem Gp.Ok.rdy {X : Gp} {o : Cg} (h : X.Ok) (hx : X.op = some o) : X.rdy = 0 := by
  unfold Gp.rdy
  rw [h.up.1, hx]
  rfl
theorem Gp.view_op {X : Gp} (h : X.view.was ≠ none) : ∃ o, X.op = some o := by
  cases hx : X.op with
  | none => simp [Gp.view, hx] at h
  | some o => exact ⟨o, rfl⟩
theorem Gp.more_need {X : Gp} {o : Cg} (h : X.Ok) (hx : X.op = some o) (i m : Nat) : o.more (i / X.row) m = X.view.need (i / X.view.row) m := by
  unfold Cg.more Rp.need Rp.row
  rw [h.row]
  simp only [Gp.view, Gp.tc, hx]

section
variable (p i : Nat) (F : Nat → Prop) (x : Rp) (w : World)
theorem gp_begin (h : GP w p F x) (ho : x.was = none) :
    Calls Tryd.prog 21 #[.pointer (some ⟨p, 0, none⟩)] w fun e' w' => e' = .returned (.int .i64 0) ∧ GPTo w w' p F x.begun := by
  obtain ⟨X, h1, h2, rfl⟩ := h
  have hx : X.op = none := by
    cases hx : X.op with
    | none => rfl
    | some o => simp [Gp.view, hx] at ho
  refine (gbegin_ok p F X w h1 h2.up.1 hx h2.inv.tb4.1).mono ?_
  rintro e w1 ⟨rfl, h3⟩
  refine ⟨rfl, h3.gp ⟨?_, h2.row, h2.up⟩ ?_⟩
  · have := h2.inv
    simp only [Gp.old, Gp.fr, Gp.lf, Gp.tc, hx] at this
    exact this
  · simp [Gp.view, Rp.begun, Gp.begun, Gp.fr, Gp.tc, hx]
theorem gp_alloc_none (h : GP w p F x) (ho : x.was ≠ none) (hf : ∀ c ∈ x.now, c ≠ .no) :
    Calls Tryd.prog 9 #[.pointer (some ⟨p, 0, none⟩)] w fun e' w' => e' = .returned (.tuple #[.int .i64 0, .int .i64 21]) ∧ w = w' := by
  obtain ⟨X, h1, h2, rfl⟩ := h
  obtain ⟨o, hx⟩ := Gp.view_op ho
  refine galloc_none p F X w h1 (h2.rdy hx) h2.inv.tb4.1 fun s hs => ?_
  rintro rfl
  exact hf .no (List.mem_map.2 ⟨0, hs, rfl⟩) rfl
theorem Gp.entry_before {X : Gp} {i : Nat} (hf : ∀ (k : Nat) c, k < i → X.view.now[k]? = some c → c ≠ .no) : ∀ (k s : Nat), k < i → X.table[k]? = some s → s ≠ 0 := by
  rintro k s hk hs rfl
  exact hf k .no hk (Gp.entry_no.2 hs) rfl
theorem gp_alloc_full (h : GP w p F x) (ho : x.was ≠ none) (hi : x.now[i]? = some .no) (hf : ∀ (k : Nat) c, k < i → x.now[k]? = some c → c ≠ .no) (hm : x.room < (x.need (i / x.row) 0 : Nat)) :
    Calls Tryd.prog 9 #[.pointer (some ⟨p, 0, none⟩)] w fun e' w' => e' = .returned (.tuple #[.int .i64 0, .int .i64 21]) ∧ Grew w w' := by
  obtain ⟨X, h1, h2, rfl⟩ := h
  obtain ⟨o, hx⟩ := Gp.view_op ho
  exact galloc_full p i F X o w h1 (h2.rdy hx) hx h2.sz h2.inv.sz.2.1 (Gp.entry_no.1 hi) (Gp.entry_before hf) (by rw [h2.room, Gp.more_need h2 hx]; exact hm)
theorem gp_alloc_ok (h : GP w p F x) (ho : x.was ≠ none) (hi : x.now[i]? = some .no) (hf : ∀ (k : Nat) c, k < i → x.now[k]? = some c → c ≠ .no) (hm : (x.need (i / x.row) 0 : Nat) ≤ x.room) :
    Calls Tryd.prog 9 #[.pointer (some ⟨p, 0, none⟩)] w fun e' w' => e' = .returned (.tuple #[.int .i64 i, .int .i64 0]) ∧ GPTo w w' p F (x.put i .zero) := by
  obtain ⟨X, h1, h2, rfl⟩ := h
  obtain ⟨o, hx⟩ := Gp.view_op ho
  have hm' : (o.more (i / X.row) 0 : Nat) ≤ X.room := by rw [h2.room, Gp.more_need h2 hx]; exact hm
  refine (galloc_ok p i F X o w h1 (h2.rdy hx) hx h2.sz h2.inv.sz.2.1 (Gp.entry_no.1 hi) (Gp.entry_before hf) hm').mono ?_
  rintro e w1 ⟨rfl, h3⟩
  have := h2.alloc hx (Gp.entry_no.1 hi) hm'
  exact ⟨rfl, h3.gp this.1 this.2⟩

variable (bs : List Int) (Ab : Option Addr) (cb : Nat)
theorem gp_write (c : Pk) (h : GP w p F x) (ho : x.was ≠ none) (hi : x.now[i]? = some c) (hu : c.used = true) (hm : c.isNew = true ∨ (x.need (i / x.row) 1 : Nat) ≤ x.room)
    (hb : bs.length = x.sz) (hby : ∀ q ∈ bs, 0 ≤ q ∧ q ≤ 255) (hA : Ab ≠ none) (hsl : Sl w 1 Ab bs.length (bv bs)) (hsF : ∀ a, Ab = some a → ¬ F a.block) :
    Calls Tryd.prog 10 #[.pointer (some ⟨p, 0, none⟩), .int .i64 i, .slice Ab bs.length cb] w fun e' w' => e' = .returned (.int .i64 0) ∧ GPTo w w' p F (x.put i (.new bs)) := by
  obtain ⟨X, h1, h2, rfl⟩ := h
  obtain ⟨o, hx⟩ := Gp.view_op ho
  obtain ⟨s, hs, h0, rfl⟩ := Gp.entry_used hi hu
  have hv := h2.inv
  simp only [Gp.old, Gp.fr, Gp.lf, Gp.tc, hx] at hv
  have hfr : X.fr = o.fresh := by simp only [Gp.fr, hx]
  rw [hfr, pk_isNew X.D o.fresh s fun e => (hv.frr s e).1] at hm
  cases hf : o.fresh s with
  | true =>
    have := h2.put (bs := bs) hx hs hf hby
    refine (gwrite_fresh p i s bs Ab cb F X o w h1 (h2.rdy hx) hx h2.sz hs h0 hf (hv.frr s hf).2.1 h2.up.2.1 h2.up.2.2 h2.up.1 hb hA hsl hsF).mono ?_
    rintro e w1 ⟨rfl, h3⟩
    exact ⟨rfl, h3.gp this.1 this.2⟩
  | false =>
    rw [hf] at hm
    have hm' : (o.more (i / X.row) 1 : Nat) ≤ X.room := by
      rw [h2.room, Gp.more_need h2 hx]
      exact hm.resolve_left (by simp)
    have hr : X.room = (cnt X.free : Int) - (cntN o.touched 64 : Int) := by simp only [Gp.room, hx]
    have hm1 : 1 ≤ o.more (i / X.row) 1 := by unfold Cg.more; omega
    obtain ⟨j, hj, -, hjt⟩ := take_there (fe := X.free) (by omega)
    have := h2.fill (bs := bs) hx hs hf hjt hm' hby
    have hfree := hv.free hjt
    have hsn : s ≤ 1 ∨ s < X.D.n := by
      by_cases e : s ≤ 1
      · exact .inl e
      · refine .inr ?_
        rcases hv.cur i s hs (by omega) with e1 | e1
        · rw [hf] at e1; cases e1
        · exact hv.rO i s e1
    refine (gwrite_new p i s j bs Ab cb F X o w h1 (h2.rdy hx) hx h2.sz hs h0 hf hsn hj hfree.2.2.2.2.1 (by have := hv.lfle; omega) hm' h2.up.2.1 h2.up.2.2 h2.up.1 hb hA hsl hsF).mono ?_
    rintro e w1 ⟨rfl, h3⟩
    exact ⟨rfl, h3.gp this.1 this.2⟩
theorem gp_write_full (nb : Nat) (c : Pk) (h : GP w p F x) (ho : x.was ≠ none) (hi : x.now[i]? = some c) (hu : c.used = true) (hn : c.isNew = false) (hm : x.room < (x.need (i / x.row) 1 : Nat)) (hb : nb = x.sz) :
    Calls Tryd.prog 10 #[.pointer (some ⟨p, 0, none⟩), .int .i64 i, .slice Ab nb cb] w fun e' w' => e' = .returned (.int .i64 21) ∧ Grew w w' := by
  obtain ⟨X, h1, h2, rfl⟩ := h
  obtain ⟨o, hx⟩ := Gp.view_op ho
  obtain ⟨s, hs, h0, rfl⟩ := Gp.entry_used hi hu
  have hv := h2.inv
  simp only [Gp.old, Gp.fr, Gp.lf, Gp.tc, hx] at hv
  have hfr : X.fr = o.fresh := by simp only [Gp.fr, hx]
  rw [hfr, pk_isNew X.D o.fresh s fun e => (hv.frr s e).1] at hn
  have hsz := hv.sz
  have hsn : s < 4096 := by
    by_cases e : s ≤ 1
    · omega
    · rcases hv.cur i s hs (by omega) with e1 | e1
      · rw [hn] at e1; cases e1
      · have := hv.rO i s e1; omega
  exact gwrite_full p i s nb Ab cb F X o w h1 (h2.rdy hx) hx h2.sz hs h0 hn hsn hsz.2.1 (by rw [h2.room, Gp.more_need h2 hx]; exact hm) hb

/-- What reading a page leaves. -/
def RdOut (w w' : World) (p : Nat) (F : Nat → Prop) (x : Rp) (bs : List Int) (e : Ending) : Prop :=
  ∃ A c, e = .returned (.tuple #[.slice A x.sz c, .int .i64 0]) ∧ w'.ownsRow w.heap.size 5 1 (.slice A x.sz c) x.sz (bv bs) ∧ bs.length = x.sz ∧ (∀ q ∈ bs, 0 ≤ q ∧ q ≤ 255) ∧ GP w' p F x ∧ Chg F w w' ∧ ∀ a, A = some a → ¬ F a.block
theorem gp_read_none (i : Int) (h : GP w p F x) (hu : i < 0 ∨ x.now.length ≤ i ∨ x.now[i.toNat]? = some .no) :
    Calls Tryd.prog 37 #[.pointer (some ⟨p, 0, none⟩), .int .i64 i] w fun e' w' => e' = .returned (.tuple #[.slice none 0 0, .int .i64 14]) ∧ w = w' := by
  obtain ⟨X, h1, h2, rfl⟩ := h
  refine gread_none p i F X w h1 h2.up.1 h2.inv.tb4.1 ?_
  unfold Gp.usedB
  rcases hu with e | e | e
  · rw [decide_eq_false (by omega)]; rfl
  · have e2 : X.view.now.length = X.table.length := by simp [Gp.view]
    rw [e2] at e
    rw [List.getD_eq_getElem?_getD, List.getElem?_eq_none (by omega)]; simp
  · rw [List.getD_eq_getElem?_getD, Gp.entry_no.1 e]; simp
theorem gp_read (c : Pk) (h : GP w p F x) (hi : x.now[i]? = some c) (hu : c.used = true) :
    Calls Tryd.prog 37 #[.pointer (some ⟨p, 0, none⟩), .int .i64 i] w fun e' w' => RdOut w w' p F x (c.bytes x.sz) e' := by
  obtain ⟨X, h1, h2, rfl⟩ := h
  obtain ⟨s, hs, h0, rfl⟩ := Gp.entry_used hi hu
  have hv := h2.inv
  by_cases e1 : s = 1
  · subst e1
    refine (gread_one p i F X w h1 h2.up.1 hv.tb4.1 hs).mono ?_
    rintro e w1 ⟨A, c, rfl, ho, hg⟩
    refine ⟨A, c, rfl, ho, by simp [pk, Pk.bytes, Gp.view], fun q hq => by simp [pk, Pk.bytes] at hq; omega, ⟨X, h1.grew hg, h2, rfl⟩, hg.chg, fun a ha hf => ?_⟩
    subst ha
    have := (ho.lt a.block rfl).1
    have h3 := h1.lt _ hf
    omega
  · have hsn : s < X.D.n := by
      rcases hv.cur i s hs (by omega) with e | e
      · exact (hv.frr s e).2.1
      · exact hv.rO i s e
    have hb : (pk X.D X.fr s).bytes X.view.sz = X.D.rd (s : Int) := by
      unfold pk
      rw [if_neg h0, if_neg e1]
      split <;> rfl
    rw [hb]
    have hlen : (X.D.rd (s : Int)).length = X.D.sz := by
      obtain ⟨L, d, b, A, ca, vp, vt, vo, hG, -⟩ := h1
      exact hG.dsk.rd_len (by omega) (by omega)
    refine (gread_sec p i s F X w h1 h2.up.1 h2.up.2.1 hv.tb4.1 hs (by omega) hsn).mono ?_
    rintro e w1 ⟨A, c, rfl, ho, hg, hc, ha⟩
    exact ⟨A, c, rfl, ho, hlen, hv.byt s hsn, ⟨X, hg, h2, rfl⟩, hc, ha⟩
end

end Go.Proofs.YtjlfnebkibgfmaaDoor

/- The pager, as its pages are: Size. -/
namespace Go.Proofs.YtjlfnebkibgfmaaDoor
open Go.RowKit Go.Maps

section
variable (p i : Nat) (F : Nat → Prop) (x : Rp) (w : World)
theorem gp_size (h : GP w p F x) :
    Calls Tryd.prog 26 #[.pointer (some ⟨p, 0, none⟩)] w fun e' w' => e' = .returned (.int .i64 x.sz) ∧ w = w' := by
  obtain ⟨X, h1, h2, rfl⟩ := h
  exact gsize_any p F X w h1
end

end Go.Proofs.YtjlfnebkibgfmaaDoor

/- How an iterator ends. -/
namespace Go.Proofs.YtjlfnebkibgfmaaDoor
open Go.RowKit

/-- How an iterator ends. -/
def IterEnd (J Jx : World → Prop) (e : Ending) (w : World) : Prop := (∃ v, e = .returned v) ∧ (J w ∨ Jx w)
/-- How a round ends. -/
def Rounded (J Jx : World → Prop) (e : Ending) (w : World) : Prop := (e = .returned (.bool true) ∧ J w) ∨ (e = .returned (.bool false) ∧ Jx w)

theorem rangeEnd_block {P : Program} {l id : Nat} {r : Loop} {Q : Exit → Act → World → Prop} {a : Act} {w3 : World}
    (h : Rec w3 l (Loop.at_ r .ready none) ∨ Rec w3 l (Loop.at_ r .done (some (.exit id)))) (hk : ∀ w4, Kept l w3 w4 → Q .normal a w4) : rangeEnd P l r (Exit.inBlock id Q) a w3 := by
  rcases h with h | h
  · exact .inl ⟨h, fun w4 k => hk w4 k⟩
  · exact .inr ⟨_, h, fun w4 k => wp_exit (by simpa [Exit.inBlock] using hk w4 k)⟩

end Go.Proofs.YtjlfnebkibgfmaaDoor

/- The pager: All, Used. -/
namespace Go.Proofs.YtjlfnebkibgfmaaDoor
open Go.RowKit Go.Maps
attribute [local go_sem] Oper.semAt_some

theorem gall_any (p : Nat) (w W : World) (hW : w.alloc (.cells #[.pointer (some ⟨p, 0, none⟩)] 26) = W) :
    Calls Tryd.prog 34 #[.pointer (some ⟨p, 0, none⟩)] w fun e w' => e = .returned (.func (.func 56) #[] #[.pointer (some ⟨w.heap.size, 0, none⟩)]) ∧ W = w' := by
  subst hW
  go_enter Tryd.func34, Tryd.ntmps34
  go_wp2
  go_ret
  exact ⟨rfl, rfl⟩

/-- What the closure that All makes reads. -/
structure GallIn (W : World) (bb p : Nat) (cs : Array Value) (A : Option Addr) (c : Nat) (l : List Nat) : Prop where
  bb : Blk W bb 26 #[.pointer (some ⟨p, 0, none⟩)]
  p : Blk W p 61 cs
  t : Sl W 1 A l.length (nv l)

set_option maxRecDepth 100000 in
set_option maxHeartbeats 1600000 in
theorem gall_iter (bb p y : Nat) (cs : Array Value) (A : Option Addr) (c : Nat) (l : List Nat) (J Jx : Nat → World → Prop) (w : World) (hl : l.length ≤ 65536) (h4 : cs[4]? = some (.slice A l.length c))
    (hin : ∀ i W, J i W → GallIn W bb p cs A c l)
    (hyld : ∀ i W s, J i W → l[i]? = some s → s ≠ 0 → YieldAt Fence.wide 0 Tryd.prog y #[.int .i64 i] W (Rounded (J (i + 1)) (Jx (i + 1))))
    (hskip : ∀ i W, J i W → l[i]? = some 0 → J (i + 1) W) (h0 : J 0 w) :
    Calls Tryd.prog 56 #[.func (.yield y) #[] #[], .pointer (some ⟨bb, 0, none⟩)] w fun e w' => IterEnd (J l.length) (fun W => ∃ i, Jx i W) e w' := by
  have Hin := Lib.hid hin
  have Hyld := Lib.hid hyld
  have Hsk := Lib.hid hskip
  have H0 := Lib.hid h0
  obtain ⟨c0, f0, s0⟩ := (hin 0 w h0).bb.facts
  have cp4 := ((hin 0 w h0).p.cell 4).trans h4
  clear hin hyld h0 hskip
  (refine (callsIn_wide (n := 1)).1 (callsIn_of_wp Tryd.func56 rfl trivial ?_ rfl); simp only [Tryd.ntmps56, List.size_toArray, List.length_cons, List.length_nil, Nat.reduceAdd, Nat.reduceSub, Array.replicate_succ, Array.replicate_zero, List.push_toArray, List.append_toArray, List.nil_append, List.cons_append])
  gi_wp2
  clear c0 f0 s0 cp4
  gi_loopg [3, 4, 10] (l.length) (fun n a1 a2 v wr => ∃ i : Nat, n = l.length - i ∧ i ≤ l.length ∧ v = .int .i64 i ∧ J i wr)
  case atStart => exact ⟨0, by simp, by omega, rfl, H0.out⟩
  case round =>
    obtain ⟨i, rfl, hi, rfl, hJ⟩ := hrel
    have HJ := Lib.hid hJ
    have hI := Hin.out i wr hJ
    clear hJ
    by_cases hlt : i < l.length
    · obtain ⟨s, hs⟩ : ∃ s, l[i]? = some s := ⟨_, List.getElem?_eq_getElem hlt⟩
      obtain ⟨g, off, rfl, hg, hx⟩ := hI.t.2 (by omega)
      have hc := hx i (.int .i64 s) (by simp [nv, hs])
      have u1 : (0 : Int) ≤ (i : Int) := by omega
      have u2 : (i : Int) < (l.length : Int) := by omega
      have HS := Lib.hid hs
      clear hx hs hI
      by_cases h0 : s = 0
      · subst h0
        have HJ2 := Lib.hid (Hsk.out i wr HJ.out HS.out)
        gi_wp2
        refine ⟨fun _ h => (by cases h), ?_⟩
        gi_wp2
        gi_roundg (l.length - (i + 1))
        case measure => omega
        case rel => exact ⟨i + 1, rfl, by omega, by simp, HJ2.out⟩
      · have e1 : ((s : Int) != 0) = true := by simpa using h0
        obtain ⟨fn, tmps, assign, body, hy, hR⟩ := Hyld.out i wr s HJ.out HS.out h0
        have HR := Lib.hid hR
        clear hR
        gi_wp2_with (refine HR.out.mono ?_; rintro e w4 (⟨rfl, hJ2⟩ | ⟨rfl, hJ2⟩) <;> have HJ2 := Lib.hid hJ2 <;> clear hJ2)
        · gi_roundg (l.length - (i + 1))
          case measure => omega
          case rel => exact ⟨i + 1, rfl, by omega, by simp, HJ2.out⟩
        · refine bodyPost_end (results_none rfl _ _ _) rfl ?_
          exact ⟨⟨_, rfl⟩, .inr ⟨_, HJ2.out⟩⟩
    · obtain rfl : i = l.length := by omega
      clear hI
      gi_wp2
      refine bodyPost_end (results_none rfl _ _ _) rfl ?_
      exact ⟨⟨_, rfl⟩, .inl HJ.out⟩

/-- How many of the first k pages are used. -/
def usedN (l : List Nat) (k : Nat) : Nat := cntN (fun j => l.getD j 0 != 0) k
theorem usedN_succ {l : List Nat} {i s : Nat} (h : l[i]? = some s) : usedN l (i + 1) = usedN l i + if s = 0 then 0 else 1 := by
  unfold usedN
  rw [cntN_succ, List.getD_eq_getElem?_getD, h]
  by_cases h0 : s = 0 <;> simp [h0]

/-- Between two rounds. -/
structure UseJ (Wr W : World) (B L : Nat) (l : List Nat) (i : Nat) (r : Loop) (st : LoopState) (pe : Option Code) : Prop where
  chg : Chg (fun j => j = B ∨ j = L) Wr W
  blk : Blk W B 3 #[.int .i64 (usedN l i)]
  rc : Rec W L (Loop.at_ r st pe)
theorem UseJ.kept {Wr W W' : World} {B L i : Nat} {l : List Nat} {r : Loop} {st st' : LoopState} {pe pe' : Option Code} (h : UseJ Wr W B L l i r st pe) (hk : Kept L W W') (hR : Rec W' L (Loop.at_ r st' pe')) : UseJ Wr W' B L l i r st' pe' :=
  ⟨Chg.trans h.chg hk.chg fun i _ e => .inr e, h.blk.kept hk, hR⟩

set_option maxRecDepth 100000 in
set_option maxHeartbeats 3200000 in
theorem gusedn_any (p : Nat) (F : Nat → Prop) (X : Gp) (w : World) (h : GS w p F X) (hl : X.table.length ≤ 4096) :
    Calls Tryd.prog 15 #[.pointer (some ⟨p, 0, none⟩)] w fun e w' => e = .returned (.int .i64 (usedN X.table X.table.length)) ∧ Grew w w' := by
  obtain ⟨L0, d, b, A, ca, vp, vt, vo, h, hF⟩ := h
  obtain ⟨At, ct, rfl, -⟩ := own_shape h.tbl
  obtain ⟨bx, hbx⟩ : ∃ b, w.heap.size = b := ⟨_, rfl⟩
  obtain ⟨W1, hW1⟩ : ∃ W, w.alloc (.cells #[.int .i64 0] 3) = W := ⟨_, rfl⟩
  have HB1 := Lib.hid (show Blk W1 bx 3 #[.int .i64 0] from hW1 ▸ hbx ▸ Blk.new _ _ _)
  have HG1 := Lib.hid (show Grew w W1 from hW1 ▸ (Chg.refl _ _).alloc _)
  have HW1 := Lib.hid hW1
  obtain ⟨W6, hW6⟩ : ∃ W6, W1.alloc (.cells #[.pointer (some ⟨p, 0, none⟩)] 26) = W6 := ⟨_, rfl⟩
  have HB6 := Lib.hid (show Blk W6 W1.heap.size 26 #[.pointer (some ⟨p, 0, none⟩)] from hW6 ▸ Blk.new _ _ _)
  have HG6 := Lib.hid (show Grew W1 W6 from hW6 ▸ (Chg.refl _ _).alloc _)
  have HA := Lib.hid (gall_any p W1 W6 hW6)
  have H := Lib.hid (And.intro h hF)
  have Hbx := Lib.hid hbx
  clear h hF hW1 hW6 hbx
  (refine calls_of_marks Tryd.func15 rfl ?_; simp only [Tryd.ntmps15, List.size_toArray, List.length_cons, List.length_nil, Nat.reduceAdd, Nat.reduceSub, Array.replicate_succ, Array.replicate_zero, List.push_toArray, List.append_toArray, List.nil_append, List.cons_append])
  go_wp2_with fail
  rw [HW1.out, Hbx.out]
  refine HA.out.mono ?_
  rintro e w5 ⟨rfl, rfl⟩
  go_wp2_with fail
  have hz1 := HB1.out.lt
  have hz6 := HB6.out.lt
  have hbw := Hbx.out
  refine wp_range (gf := 56) (lb := #[.pointer (some ⟨W1.heap.size, 0, none⟩)]) rfl (enters_of Tryd.func56 (by kernel_rfl) rfl) ?_
  intro r Wr D L hr hg1 hDl hLl hD hR
  have HR1 := Lib.hid hr
  have hDL := Ne.symm (hR.ne_dfr hD)
  have hz7 := hg1.size
  have hL2 := hR.lt
  have hD2 := hD.lt
  have HGa := Lib.hid (Grew.trans (Grew.trans HG1.out HG6.out) hg1)
  have HBp := Lib.hid (HB6.out.grew hg1)
  have HPr := Lib.hid (H.out.1.grew HGa.out)
  have HJ0 := Lib.hid (show UseJ Wr Wr bx L X.table 0 r .ready none from ⟨Chg.refl _ _, (HB1.out.grew HG6.out).grew hg1, hR⟩)
  have HDf := Lib.hid hD
  have hlt := H.out.1.lt
  have HLT := Lib.hid hlt
  clear hr hg1 hD hR hlt
  refine (gall_iter W1.heap.size p L _ At ct X.table (fun i W => UseJ Wr W bx L X.table i r .ready none) (fun _ _ => False) Wr (by omega) ?h4
    (fun i W hJ => ⟨HBp.out.chg hJ.chg ?h1, HPr.out.blk.chg hJ.chg ?h2, (Sl.of_own HPr.out.tbl).chg hJ.chg ?h3⟩)
    (fun i W s hJ hx h0 => ?yld) (fun i W hJ hx => ?skp) HJ0.out).mono ?post
  case h4 => rfl
  case h1 => rintro (q | q) <;> omega
  case h2 => have := HLT.out p (by rw [H.out.1.lp]; omega); rintro (q | q) <;> omega
  case h3 => intro a ha; have := HLT.out a.block (by rw [H.out.1.lb a.block (by rw [ha]; rfl)]; omega); rintro (q | q) <;> omega
  case skp => exact ⟨hJ.chg, by rw [usedN_succ hx]; exact hJ.blk, hJ.rc⟩
  case yld =>
    have hil : i < X.table.length := (List.getElem?_eq_some_iff.1 hx).1
    have hus := usedN_succ hx
    rw [if_neg h0] at hus
    have hcl : usedN X.table i ≤ i := cntN_le _ _
    have HU := Lib.hid hus
    have HJ := Lib.hid hJ
    clear hx hJ hus
    obtain ⟨hr1, hr2, hr3', hr4⟩ := HR1.out
    refine yield_wide HJ.out.rc (by rw [hr2]; rfl) ?_
    rw [hr1, hr2, hr3', hr4]
    clear hr1 hr2 hr3' hr4
    intro K hK
    have HKK := Lib.hid hK
    clear hK
    gi_wp2
    refine HKK.out _ _ HJ.out.rc fun W5 Q hk3 hR2 hQ => ?_
    refine Code.wpIn_mono hQ ?_
    have HJ5 := Lib.hid (HJ.out.kept hk3 hR2)
    clear hk3 hR2 hQ Q
    obtain ⟨c1, f1, s1⟩ := HJ5.out.blk.facts
    gi_wp2
    obtain ⟨W8, hW8⟩ : ∃ W8, W5.setCell ⟨bx, 0, none⟩ (.int .i64 ((usedN X.table i : Int) + 1)) = W8 := ⟨_, rfl⟩
    rw [hW8]
    have HJ8 : UseJ Wr W8 bx L X.table (i + 1) r .busy none := by
      subst hW8
      refine ⟨HJ5.out.chg.setCell (p := ⟨bx, 0, none⟩) (fun _ => .inl rfl) _, ?_, HJ5.out.rc.chg ((Chg.refl (fun j => j = bx) W5).setCell (p := ⟨bx, 0, none⟩) (fun _ => rfl) _) (by omega)⟩
      have := HJ5.out.blk.put 0 (.int .i64 ((usedN X.table i : Int) + 1))
      rw [HU.out]
      simpa using this
    exact ⟨HJ8.rc, fun w' hk' hR' => .inl ⟨rfl, HJ8.kept hk' hR'⟩⟩
  case post =>
    rintro e w3' ⟨hv, hJ⟩
    refine ⟨hv, ?_⟩
    rcases hJ with hJ | ⟨i, hJ⟩
    rotate_left
    · exact hJ.elim
    refine .inl ⟨hJ.rc, fun w4 hk4 => ?_⟩
    have HC4 := Lib.hid (Chg.trans hJ.chg hk4.chg fun i _ e => .inr e)
    have HB4 := Lib.hid (hJ.blk.kept hk4)
    clear hJ hk4
    have HD4 := Lib.hid (HDf.out.chg HC4.out (by rintro (e | e) <;> omega))
    have hcw4 := HC4.out.size
    have HGw := Lib.hid (show Grew w w4 from Chg.mono (Chg.trans (F := fun j => w.heap.size ≤ j) HGa.out.chg HC4.out fun i hi e => by rcases e with e | e <;> omega) fun i hi e => absurd e (by omega))
    obtain ⟨c1, f1, s1⟩ := HB4.out.facts
    go_wp2_with fail
    refine postM_ret1 (v := .int .i64 (usedN X.table X.table.length)) (D := D) HD4.out rfl fun w5 hk5 => ⟨?_, ?_⟩
    · simp [results, Tryd.results15, go_sem]
    · exact ⟨rfl, Chg.kept HGw.out hk5 (by omega)⟩

end Go.Proofs.YtjlfnebkibgfmaaDoor

/- The pager, as its pages are: Used. -/
namespace Go.Proofs.YtjlfnebkibgfmaaDoor
open Go.RowKit Go.Maps

section
variable (p i : Nat) (F : Nat → Prop) (x : Rp) (w : World)
theorem gp_used (h : GP w p F x) :
    Calls Tryd.prog 15 #[.pointer (some ⟨p, 0, none⟩)] w fun e' w' => e' = .returned (.int .i64 (x.now.countP Pk.used)) ∧ Grew w w' := by
  obtain ⟨X, h1, h2, rfl⟩ := h
  have e : usedN X.table X.table.length = X.view.now.countP Pk.used := by
    unfold usedN Gp.view
    rw [cntN_countP, List.countP_map, countP_range X.table]
    refine List.countP_congr fun k hk => ?_
    simp only [Function.comp, pk_used]
  rw [← e]
  exact gusedn_any p F X w h1 h2.inv.tb4.1
end

end Go.Proofs.YtjlfnebkibgfmaaDoor

/- append(s, make([]T, k)...), s the call's own row: k zero values behind. No program stands in this text. -/
namespace Go.Proofs.YtjlfnebkibgfmaaDoor
open Go.RowKit

theorem zeroCells_list (z : Value) (hz : z.cells = #[z]) (k : Nat) : (Builtin.zeroCells z.cells k).toList = List.replicate k z := by
  rw [hz]
  refine List.eq_replicate_iff.2 ⟨by simp [Builtin.zeroCells], fun b hb => ?_⟩
  simp only [Builtin.zeroCells, Array.toList_map, List.mem_map] at hb
  obtain ⟨m, -, rfl⟩ := hb
  have : m % 1 = 0 := Nat.mod_one m
  simp [this]
theorem run_append_zeros_own {P : Program} (w : World) (base : Nat) (t tn ty e : TypeId) (i : TypeInfo) (z : Value) (kq kn : IntKind) (ht : P.underlying t = some (.slice e)) (htn : P.underlying tn = some (.int kn)) (hi : P.info? e = some i) (hz : i.zero = some z)
    (hsz : i.size = 1) (hby : i.bytes ≤ 8) (hzc : z.cells = #[z]) (hz1 : z.oneCell' = true) (g n c : Nat) (xs : List Value) (hown : w.ownsRow base e 1 (.slice (some ⟨g, 0, none⟩) n c) n xs) (k : Nat) (hk : n + k ≤ 1000000) (hb : base ≤ w.heap.size) :
    ∃ v' w', (Builtin.append_ #[t, tn] ty #[.slice (some ⟨g, 0, none⟩) n c, .int kq k]).run P w = .ok v' w' ∧ w'.ownsRow base e 1 v' (n + k) (xs ++ List.replicate k z) ∧ w.grownBy w' (some g) ∧ (v'.ownBlock = some g ∨ v'.ownBlock = some w.heap.size) := by
  obtain ⟨cur, hbg, hg, hnc, hcm, hcs, htake, hxl⟩ := own_row hown
  have hw : IntKind.i64.wrap (k : Int) = k := by rw [IntKind.wrap_i64]; omega
  have hneg : ¬ ((k : Int) < 0) := by omega
  have h48i : ¬ (281474976710656 < (k : Int) * (i.bytes : Int)) := by
    rw [← Int.natCast_mul]
    have : k * i.bytes ≤ k * 8 := Nat.mul_le_mul_left _ hby
    omega
  have hlen : (xs ++ List.replicate k z).length = (n + k) * 1 := by simp; omega
  by_cases hroom : n + k ≤ c
  · have hst := run_storeCells_at P g (n * i.size) e (List.replicate k z) 0 cur w hg (by simp [hsz]; omega) (fun v hv => by rw [(List.mem_replicate.1 hv).2]; exact hz1)
    simp only [Nat.add_zero] at hst
    have hzl := zeroCells_list z hzc k
    refine ⟨.slice (some ⟨g, 0, none⟩) (n + k) c, _, ?_, ⟨hlen, .inr ⟨g, c, _, rfl, hbg, setRow_heap w g cur (cur.toList.take n ++ List.replicate k z ++ cur.toList.drop (n + k)).toArray e _ hg, hroom, hcm, ?_, ?_⟩⟩, ⟨rfl, rfl, rfl, by simp, fun j _ hj => setRow_other w g j _ (fun e => hj (by simp [e]))⟩, .inl rfl⟩
    · by_cases h0 : k = 0
      · subst h0
        have hself := setRow_self w g cur e (0, 0) hg
        simp only [List.replicate_zero, List.append_nil, Nat.add_zero, List.take_append_drop, Array.toArray_toList, hself]
        have hw0 : IntKind.i64.wrap 0 = 0 := by decide
        simp [Builtin.append_, run_underlying ht, run_underlying htn, sizeOf, typeInfo, zeroValue, hi, hz, hsz, asInt, asIntOf, hw0, hnc, Addr.add_lit, storeCells]
      · have hns : ¬ (k * 1 = 0) := by omega
        rw [hsz, Nat.mul_one] at hst
        simp only [List.length_replicate] at hst
        simp [Builtin.append_, run_underlying ht, run_underlying htn, sizeOf, typeInfo, zeroValue, hi, hz, hsz, asInt, asIntOf, hw, hneg, h48i, hroom, h0, Addr.add_lit, hzl, hst]
    · simp only [List.size_toArray, List.length_append, List.length_take, List.length_drop, Array.length_toList, List.length_replicate]
      omega
    · rw [← hlen]
      have : cur.toList.take n = xs := by rw [← htake, Nat.mul_one]
      rw [this]
      simp only [List.append_assoc]
      rw [← List.append_assoc]
      exact List.take_left
  · have hr := Lib.run_append_grow_zeros (P := P) w t tn ty e i z kq kn ht htn hi hz (some ⟨g, 0, none⟩) n c xs
      (by rw [hsz]; exact run_firstCells_some (P := P) w.drew 1 n ⟨g, 0, none⟩ n c xs (by omega) (hown.cells (g := g) rfl)) k (by omega) (by omega) (by omega) (by omega)
      (by have : k * i.bytes ≤ k * 8 := Nat.mul_le_mul_left _ hby; omega) (growslice_fits (by omega) (by have : (n + k) * i.bytes ≤ (n + k) * 8 := Nat.mul_le_mul_left _ hby; omega))
    have hge := grownCap_ge w (n + k) c e
    have hcm' : grownCap w (n + k) c e ≤ maxLen := grownCap_le_maxLen w (n + k) c e (by simp only [maxLen]; omega)
    refine ⟨_, _, hr, ⟨hlen, .inr ⟨w.heap.size, _, _, rfl, hb, heap_alloc_new w.drew _, hge, hcm', ?_, ?_⟩⟩, ⟨rfl, rfl, rfl, by simp, fun j hj _ => heap_alloc_old w.drew _ hj⟩, .inr rfl⟩
    · simp only [Array.size_append, List.size_toArray, size_zeroCells, hzc]
      simp
      omega
    · rw [← hlen]
      simp only [Array.toList_append, zeroCells_list z hzc]
      exact List.take_left

theorem wpList_append_zeros {P : Program} {w : World} {ops : Array Oper} {rest : List Oper} {o : Oper} {a : Act} {Q : Exit → Act → World → Prop} (hgd : o.guard = none) (s x : Operand) (base : Nat) (t tn e : TypeId)
    (ho : o.op = .call { callee := .builtin .append, args := #[s, x], argTypes := #[t, tn] }) (i : TypeInfo) (z : Value) (kq kn : IntKind) (ht : P.underlying t = some (.slice e)) (htn : P.underlying tn = some (.int kn)) (hi : P.info? e = some i) (hz : i.zero = some z)
    (hsz : i.size = 1) (hby : i.bytes ≤ 8) (hzc : z.cells = #[z]) (hz1 : z.oneCell' = true) (v : Value) (n : Nat) (xs : List Value) (hown : w.ownsRow base e 1 v n xs) (hn0 : 0 < n) (k : Nat) (hk : n + k ≤ 1000000) (hb : base ≤ w.heap.size)
    (hs : a.eval s = v) (hx : a.eval x = .int kq k)
    (h : ∀ v' w', w'.ownsRow base e 1 v' (n + k) (xs ++ List.replicate k z) → w.grownBy w' v.ownBlock → (v'.ownBlock = v.ownBlock ∨ v'.ownBlock = some w.heap.size) → wpList P ops Q rest (a.put o.dst v') w') : wpList P ops Q (o :: rest) a w := by
  obtain ⟨A, c, rfl, -⟩ := own_shape hown
  obtain ⟨g, rfl, -⟩ := own_block hown hn0
  obtain ⟨v', w', hr, h1, h2, h3⟩ := run_append_zeros_own (P := P) w base t tn o.type e i z kq kn ht htn hi hz hsz hby hzc hz1 g n c xs hown k hk hb
  refine wpList_plain hgd fun _ hK => ?_
  unfold Oper.wp execOp
  simp only [ho, resolve, invoke, builtin, Sem.run_bind, Sem.run_pure, Result.andThen_ok, List.map_toArray, List.map_cons, List.map_nil, hs, hx, hr]
  exact hK _ _ (h v' w' h1 h2 h3)

end Go.Proofs.YtjlfnebkibgfmaaDoor

/- The chain: Need, page. -/
namespace Go.Proofs.YtjlfnebkibgfmaaDoor
open Go.RowKit Go.Maps

/-- How many pages a record needs. -/
def needI (n sz : Int) : Int := if n < 1 ∨ 16384 < n ∨ sz < 64 then 0 else (n - 1) / (sz - 5) + 1
theorem need_any (n sz : Int) (w : World) (h1 : -9223372036854775808 ≤ n ∧ n ≤ 9223372036854775807) (h2 : -9223372036854775808 ≤ sz ∧ sz ≤ 9223372036854775807) :
    Calls Tryd.prog 6 #[.int .i64 n, .int .i64 sz] w fun e w' => e = .returned (.int .i64 (needI n sz)) ∧ w = w' := by
  unfold needI
  by_cases hn : n < 1 ∨ 16384 < n ∨ sz < 64
  · rw [if_pos hn]
    rcases Classical.em (n < 1) with a | a
    · have t1 : decide (n < 1) = true := decide_eq_true a
      clear hn
      go_enter Tryd.func6, Tryd.ntmps6
      go_wp2
      go_ret
      exact ⟨rfl, rfl⟩
    · have t1 : decide (n < 1) = false := decide_eq_false a
      rcases Classical.em (16384 < n) with b | b
      · have t2 : decide (16384 < n) = true := decide_eq_true b
        clear hn
        go_enter Tryd.func6, Tryd.ntmps6
        go_wp2
        go_ret
        exact ⟨rfl, rfl⟩
      · have t2 : decide (16384 < n) = false := decide_eq_false b
        have t3 : decide (sz < 64) = true := decide_eq_true (by omega)
        clear hn
        go_enter Tryd.func6, Tryd.ntmps6
        go_wp2
        go_ret
        exact ⟨rfl, rfl⟩
  · rw [if_neg hn]
    have t1 : decide (n < 1) = false := decide_eq_false (by omega)
    have t2 : decide (16384 < n) = false := decide_eq_false (by omega)
    have t3 : decide (sz < 64) = false := decide_eq_false (by omega)
    have q1 : (sz - 5) ≠ 0 := by omega
    have q2 : 0 ≤ (n - 1) / (sz - 5) := Int.ediv_nonneg (by omega) (by omega)
    have q3 : (n - 1) / (sz - 5) ≤ 16384 := by have := Int.ediv_le_self (b := sz - 5) (show 0 ≤ n - 1 by omega); omega
    have q4 : (n - 1).tdiv (sz - 5) = (n - 1) / (sz - 5) := Int.tdiv_eq_ediv_of_nonneg (by omega)
    have b1 : 1 ≤ n := by omega
    have b2 : n ≤ 16384 := by omega
    have b3 : 64 ≤ sz := by omega
    have b4 := h2.2
    clear hn
    go_enter Tryd.func6, Tryd.ntmps6
    go_wp2
    go_ret
    exact ⟨rfl, rfl⟩

/-- The bytes of a chain's page. -/
def pgL (bs : List Int) (next sz : Nat) : List Int := [3, ((next % 256 : Nat) : Int), ((next / 256 % 256 : Nat) : Int), ((bs.length % 256 : Nat) : Int), ((bs.length / 256 % 256 : Nat) : Int)] ++ bs ++ List.replicate (sz - 5 - bs.length) 0
set_option maxRecDepth 100000 in
set_option maxHeartbeats 1600000 in
theorem cpage_any (bs : List Int) (next sz : Nat) (A : Option Addr) (c : Nat) (w : World) (hs : Sl w 1 A bs.length (bv bs)) (hA : A ≠ none) (hl : bs.length + 5 ≤ sz) (hz : sz ≤ 4096) (hn : next ≤ 65535) :
    Calls Tryd.prog 36 #[.slice A bs.length c, .int .i64 next, .int .i64 sz] w fun e w' => OwnOut w w' 5 1 sz (bv (pgL bs next sz)) (fun A c => .slice A sz c) e := by
  obtain ⟨i0, hi0, hz0, hz1, hz2⟩ := info_parts u8Info_
  obtain ⟨a, rfl⟩ : ∃ a, A = some a := by cases A with | none => exact absurd rfl hA | some a => exact ⟨a, rfl⟩
  obtain ⟨n, hn0⟩ : ∃ n, bs.length = n := ⟨_, rfl⟩
  have H := Lib.hid (And.intro hs hn0)
  have hcells : ∀ (w1 : World), Grew w w1 → ∀ j u, (bv bs)[j]? = some u → w1.cell? (Addr.add a j) = some u := by
    intro w1 hg j u hu
    have hj : j < bs.length := by have := (List.getElem?_eq_some_iff.1 hu).1; rwa [bv_len] at this
    obtain ⟨b, off, e, hb, hx⟩ := hs.2 (by omega)
    cases e
    rw [Addr.add_lit]
    exact (hg.cell (p := ⟨b, off + j, none⟩) hb id).trans (hx j u hu)
  have HC := Lib.hid hcells
  rw [hn0] at hl ⊢
  clear hs hn0 hcells hA
  have q1 : ((next / 256 % 256 : Nat) : Int) = (next : Int) / 256 := by omega
  have q2 : ((n / 256 % 256 : Nat) : Int) = (n : Int) / 256 := by omega
  go_enter Tryd.func36, Tryd.ntmps36
  go_wp2_with (first
    | (at_builtin; (refine wpList_append_own _ rfl _ _ _ rfl w.heap.size 5 i0 _ 1 1 Tryd.underlying29 hi0 hz0 hz1 hz2 rfl (by omega) _ 5 _ rfl (World.ownsRow_lit w #[.int .u8 3, .int .u8 ((next : Int) % 256), .int .u8 ((next : Int) / 256), .int .u8 ((n : Int) % 256), .int .u8 ((n : Int) / 256)] 5 (Nat.le_refl _) (by simp [maxLen]) (by simp)) a n c (bv bs) rfl (by rw [bv_len, H.out.2, Nat.mul_one]) (HC.out _ ((Chg.refl _ _).alloc _)) (bv_one bs) (by simp only [maxLen]; omega) (by omega) (by simp) ?_); intro v1 w1 hown1 hgrow hnil; obtain ⟨A1, c1, rfl, hc1⟩ := own_shape hown1; have HO := Lib.hid hown1; have HG := Lib.hid (show World.grownBy (w.alloc (.cells #[.int .u8 3, .int .u8 ((next : Int) % 256), .int .u8 ((next : Int) / 256), .int .u8 ((n : Int) % 256), .int .u8 ((n : Int) / 256)] 5)) w1 (some w.heap.size) from hgrow); clear hown1 hgrow hnil)
    | (at_builtin; (refine wpList_append_zeros rfl _ _ w.heap.size _ _ 5 rfl i0 (.int .u8 0) _ _ Tryd.underlying29 Tryd.underlying3 hi0 hz0 hz1 (by rw [hz2]; omega) rfl rfl _ _ _ HO.out (by omega) (sz - 5 - n) (by omega) (by have := HG.out.size; simp at this; omega) rfl (show Value.int .i64 ((sz : Int) - (5 + (n : Int))) = Value.int .i64 ((sz - 5 - n : Nat) : Int) from congrArg (Value.int .i64) (by omega)) ?_); intro v2 w2 hown2 hgrow2 hat2; rw [show 5 + n + (sz - 5 - n) = sz from by omega] at hown2; obtain ⟨A2, c2, rfl, hc2⟩ := own_shape hown2; have HO2 := Lib.hid hown2; have HG2 := Lib.hid (And.intro hgrow2 hat2); clear hown2 hgrow2 hat2))
  go_ret
  have hl2 : bv (pgL bs next sz) = #[.int .u8 3, .int .u8 ((next : Int) % 256), .int .u8 ((next : Int) / 256), .int .u8 ((n : Int) % 256), .int .u8 ((n : Int) / 256)].toList ++ bv bs ++ List.replicate (sz - 5 - n) (.int .u8 0) := by
    unfold pgL
    rw [H.out.2, q1, q2]
    simp [bv]
  have hg1 : Grew w w1 := ((Chg.refl NoF w).alloc _).grown HG.out (fun k hk hlt => by injection hk with hk; omega)
  refine OwnOut.mk A2 c2 rfl ?_ ?_
  · rw [hl2]
    exact HO2.out
  · exact hg1.grown HG2.out.1 (fun k hk hlt => by have := (HO.out.lt k hk).1; omega)

end Go.Proofs.YtjlfnebkibgfmaaDoor

/- slices.Chunk at bytes. -/
namespace Go.Proofs.YtjlfnebkibgfmaaDoor
open Go.RowKit Go.Maps
attribute [local go_sem] Oper.semAt_some

theorem chunk_any (A : Option Addr) (len c n : Nat) (w W : World) (hn : 1 ≤ n) (hW : (w.alloc (.cells #[.slice A len c] 29)).alloc (.cells #[.int .i64 n] 3) = W) :
    Calls Tryd.prog 35 #[.slice A len c, .int .i64 n] w fun e w' => e = .returned (.func (.func 57) #[] #[.pointer (some ⟨w.heap.size, 0, none⟩), .pointer (some ⟨w.heap.size + 1, 0, none⟩)]) ∧ W = w' := by
  subst hW
  have a1 : decide ((n : Int) < 1) = false := decide_eq_false (by omega)
  go_enter Tryd.func35, Tryd.ntmps35
  go_wp2
  go_ret
  exact ⟨rfl, rfl⟩

/-- What the closure that Chunk makes reads. -/
structure ChunkIn (W : World) (b1 b2 : Nat) (A : Option Addr) (len c n : Nat) : Prop where
  b1 : Blk W b1 29 #[.slice A len c]
  b2 : Blk W b2 3 #[.int .i64 n]

set_option maxRecDepth 100000 in
set_option maxHeartbeats 1600000 in
theorem chunk_iter (b1 b2 y g off len c n K : Nat) (J Jx : Nat → World → Prop) (w : World) (hn : 1 ≤ n) (hl : len ≤ 100000) (hn2 : n ≤ 100000) (hc : len ≤ c) (hK : ∀ k, k * n < len ↔ k < K)
    (hin : ∀ k W, J k W → ChunkIn W b1 b2 (some ⟨g, off, none⟩) len c n)
    (hdr : ∀ (k : Nat) (W : World) (q : Nat), J k W → J k (W.drewN q))
    (hyld : ∀ (k i m : Nat) W, J k W → i = k * n → i < len → m = min n (len - i) → YieldAt Fence.wide 0 Tryd.prog y #[.slice (some ⟨g, off + i, none⟩) m m] W (Rounded (J (k + 1)) (Jx (k + 1)))) (h0 : J 0 w) :
    Calls Tryd.prog 57 #[.func (.yield y) #[] #[], .pointer (some ⟨b1, 0, none⟩), .pointer (some ⟨b2, 0, none⟩)] w fun e w' => IterEnd (J K) (fun W => ∃ k, Jx k W) e w' := by
  have Hin := Lib.hid hin
  have Hyld := Lib.hid hyld
  have H0 := Lib.hid h0
  have HK := Lib.hid hK
  have Hdr := Lib.hid hdr
  clear hin hyld h0 hK hdr
  (refine (callsIn_wide (n := 1)).1 (callsIn_of_wp Tryd.func57 rfl trivial ?_ rfl); simp only [Tryd.ntmps57, List.size_toArray, List.length_cons, List.length_nil, Nat.reduceAdd, Nat.reduceSub, Array.replicate_succ, Array.replicate_zero, List.push_toArray, List.append_toArray, List.nil_append, List.cons_append])
  gi_wp2
  gi_loopg [4] K (fun q v wr => ∃ k i : Nat, q = K - k ∧ k ≤ K ∧ i = k * n ∧ i ≤ 200000 ∧ v = .int .i64 i ∧ J k wr)
  case atStart => exact ⟨0, 0, by simp, by omega, by simp, by omega, rfl, H0.out⟩
  case round =>
    obtain ⟨k, i, rfl, hk, hi, hi2, rfl, hJ⟩ := hrel
    have HJ := Lib.hid hJ
    have hI := Hin.out k wr hJ
    obtain ⟨c0, f0, s0⟩ := hI.b1.facts
    obtain ⟨c1, f1, s1⟩ := hI.b2.facts
    have HI := Lib.hid hi
    clear hJ hI hi
    by_cases hlt : i < len
    · have hkK : k < K := (HK.out k).1 (HI.out ▸ hlt)
      have hnext : i + n = (k + 1) * n := by rw [HI.out, Nat.add_mul, Nat.one_mul]
      have HN := Lib.hid hnext
      have u1 : (i : Int) < (len : Int) := by omega
      have HJn := Lib.hid (fun q => Hdr.out k wr q HJ.out)
      clear hnext
      by_cases hmn : n ≤ len - i
      · have u2 : decide ((n : Int) < (len : Int) - (i : Int)) = decide (n < len - i) := by rw [decide_eq_decide]; omega
        gi_wp2_with fail
        gi_big_quiet (fail)
        obtain ⟨fn, tmps, assign, body, hy, hR⟩ := Hyld.out k i n (wr.drewN nq) (HJn.out nq) HI.out hlt (Nat.min_eq_left hmn).symm
        have HR := Lib.hid hR
        clear hR
        gi_wp2_with fail
        refine HR.out.mono ?_
        rintro e w4 (⟨rfl, hJ2⟩ | ⟨rfl, hJ2⟩)
        · have HJ2 := Lib.hid hJ2
          obtain ⟨c2, f2, s2⟩ := (Hin.out (k + 1) w4 hJ2).b2.facts
          clear hJ2
          gi_wp2
          gi_roundg (K - (k + 1))
          case measure => omega
          case rel => exact ⟨k + 1, i + n, rfl, by omega, HN.out, by omega, by simp, HJ2.out⟩
        · have HJ2 := Lib.hid hJ2
          clear hJ2
          gi_wp2
          refine bodyPost_end (results_none rfl _ _ _) rfl ?_
          exact ⟨⟨_, rfl⟩, .inr ⟨_, HJ2.out⟩⟩
      · have u2 : decide ((n : Int) < (len : Int) - (i : Int)) = decide (n < len - i) := by rw [decide_eq_decide]; omega
        have e1 : (len : Int) - (i : Int) = ((len - i : Nat) : Int) := by omega
        gi_wp2_with fail
        gi_big_quiet (fail)
        obtain ⟨fn, tmps, assign, body, hy, hR⟩ := Hyld.out k i (len - i) (wr.drewN nq) (HJn.out nq) HI.out hlt (Nat.min_eq_right (by omega)).symm
        have HR := Lib.hid hR
        clear hR
        gi_wp2_with fail
        refine HR.out.mono ?_
        rintro e w4 (⟨rfl, hJ2⟩ | ⟨rfl, hJ2⟩)
        · have HJ2 := Lib.hid hJ2
          obtain ⟨c2, f2, s2⟩ := (Hin.out (k + 1) w4 hJ2).b2.facts
          clear hJ2
          gi_wp2
          gi_roundg (K - (k + 1))
          case measure => omega
          case rel => exact ⟨k + 1, i + n, rfl, by omega, HN.out, by omega, by simp, HJ2.out⟩
        · have HJ2 := Lib.hid hJ2
          clear hJ2
          gi_wp2
          refine bodyPost_end (results_none rfl _ _ _) rfl ?_
          exact ⟨⟨_, rfl⟩, .inr ⟨_, HJ2.out⟩⟩
    · obtain rfl : k = K := by have := (HK.out k).2; rw [← HI.out] at this; omega
      have u1 : (len : Int) ≤ (i : Int) := by omega
      gi_wp2
      refine bodyPost_end (results_none rfl _ _ _) rfl ?_
      exact ⟨⟨_, rfl⟩, .inl HJ.out⟩

end Go.Proofs.YtjlfnebkibgfmaaDoor

/- The pager: Alloc, Write, Free in all cases; how much slack there is. -/
namespace Go.Proofs.YtjlfnebkibgfmaaDoor
open Go.RowKit Go.Maps

/-- How many sectors may be taken at any rate. -/
def Rp.slack (x : Rp) : Int := x.free - tabN x.n x.sz
theorem countP_set' {α : Type} (p : α → Bool) (a b : α) : ∀ (l : List α) (i : Nat), l[i]? = some b → (l.set i a).countP p + (if p b then 1 else 0) = l.countP p + (if p a then 1 else 0)
  | [], i, h => by simp at h
  | c :: t, 0, h => by
    simp only [List.getElem?_cons_zero, Option.some.injEq] at h
    subst h
    simp only [List.set_cons_zero, List.countP_cons]
    omega
  | c :: t, i + 1, h => by
    simp only [List.getElem?_cons_succ] at h
    have := countP_set' p a b t i h
    simp only [List.set_cons_succ, List.countP_cons]
    omega
theorem Rp.put_slack {x : Rp} {i : Nat} {c c0 : Pk} (hw : x.was ≠ none) (hi : x.now[i]? = some c0) : (x.put i c).slack + (if c.isNew then 1 else 0) = x.slack + (if c0.isNew then 1 else 0) := by
  have h1 := countP_set' Pk.isNew c c0 x.now i hi
  have hb : (x.put i c).base = x.base := by
    unfold Rp.base Rp.put
    cases hx : x.was with
    | none => exact absurd hx hw
    | some b => rfl
  unfold Rp.slack Rp.free
  rw [hb, show (x.put i c).n = x.n from rfl, show (x.put i c).sz = x.sz from rfl, show (x.put i c).now = x.now.set i c from rfl]
  split at h1 <;> split at h1 <;> simp_all <;> omega
theorem Rp.put_used {x : Rp} {i : Nat} {c c0 : Pk} (hi : x.now[i]? = some c0) : (x.put i c).now.countP Pk.used + (if c0.used then 1 else 0) = x.now.countP Pk.used + (if c.used then 1 else 0) := countP_set' Pk.used c c0 x.now i hi
theorem Rp.put_at {x : Rp} {i k : Nat} {c : Pk} (hi : i < x.now.length) : (x.put i c).now[k]? = if k = i then some c else x.now[k]? := set_at hi
theorem Rp.put_len (x : Rp) (i : Nat) (c : Pk) : (x.put i c).now.length = x.now.length := List.length_set
/-- The same disk, and the same pages when the change began. -/
structure Rp.like (x y : Rp) : Prop where
  n : y.n = x.n
  sz : y.sz = x.sz
  was : y.was = x.was
  epoch : y.epoch = x.epoch
  len : y.now.length = x.now.length
theorem Rp.like.refl (x : Rp) : x.like x := ⟨rfl, rfl, rfl, rfl, rfl⟩
theorem Rp.like.trans {x y z : Rp} (h : x.like y) (k : y.like z) : x.like z := ⟨k.n.trans h.n, k.sz.trans h.sz, k.was.trans h.was, k.epoch.trans h.epoch, k.len.trans h.len⟩
theorem Rp.put_like (x : Rp) (i : Nat) (c : Pk) : x.like (x.put i c) := ⟨rfl, rfl, rfl, rfl, List.length_set⟩

theorem cntN_bnd {f : Nat → Bool} {T : Nat} (h : ∀ k, f k = true → k < T) : ∀ n, cntN f n ≤ T
  | 0 => Nat.zero_le _
  | n + 1 => by
    rw [cntN_succ]
    by_cases hn : n < T
    · have := cntN_le f n; split <;> omega
    · have : f n = false := by cases e : f n with | false => rfl | true => exact absurd (h n e) hn
      rw [this]
      simpa using cntN_bnd h n
section
variable {w w' : World} {p i : Nat} {F : Nat → Prop} {x : Rp}
theorem GP.part (h : GP w p F x) (hi : i < x.now.length) : i / x.row < tabN x.n x.sz := by
  obtain ⟨X, -, h2, rfl⟩ := h
  have := h2.inv.part (i := i) (by simpa [Gp.view] using hi)
  rw [h2.inv.lens.2.1] at this
  exact this
theorem GP.need (h : GP w p F x) {k m : Nat} (hk : k < tabN x.n x.sz) (hm : (m : Int) ≤ x.slack) : (x.need k m : Int) ≤ x.room := by
  obtain ⟨X, -, h2, rfl⟩ := h
  have h3 : ∀ q, X.tc q = true → q < tabN X.D.n X.D.sz := fun q hq => by have := h2.inv.tc6 q hq; rw [h2.inv.lens.2.1] at this; exact this
  have h64 : tabN X.D.n X.D.sz ≤ 64 := by have := h2.inv.pg64; rw [h2.inv.lens.2.1] at this; exact this
  have hk' : k < tabN X.D.n X.D.sz := hk
  unfold Rp.room Rp.need
  have e1 : X.view.touched = X.tc := rfl
  have e2 : X.view.slack = X.view.free - tabN X.D.n X.D.sz := rfl
  rw [e1]
  cases ht : X.tc k with
  | true => have := cntN_bnd h3 64; simp; omega
  | false =>
    have h4 := cntN_bnd (f := setB X.tc k true) (T := tabN X.D.n X.D.sz) (fun q hq => by
      unfold setB at hq
      split at hq
      · omega
      · exact h3 q hq) 64
    rw [cntN_yes X.tc (by omega) ht] at h4
    simp
    omega
/-- Table pages that are touched are kept back at most. -/
theorem GP.room (h : GP w p F x) : x.slack ≤ x.room ∧ x.room ≤ x.free ∧ 0 ≤ x.room := by
  obtain ⟨X, -, h2, rfl⟩ := h
  have h3 : ∀ q, X.tc q = true → q < tabN X.D.n X.D.sz := fun q hq => by have := h2.inv.tc6 q hq; rw [h2.inv.lens.2.1] at this; exact this
  have h4 := cntN_bnd h3 64
  have h5 := h2.inv.room
  have h6 := h2.free
  have e1 : X.view.touched = X.tc := rfl
  have e2 : X.view.slack = X.view.free - tabN X.D.n X.D.sz := rfl
  unfold Rp.room
  rw [e1]
  omega
end
theorem least_no : ∀ (l : List Pk), Pk.no ∈ l → ∃ i, l[i]? = some .no ∧ ∀ (k : Nat) c, k < i → l[k]? = some c → c ≠ .no
  | [], h => by simp at h
  | c :: t, h => by
    by_cases hc : c = .no
    · subst hc; exact ⟨0, rfl, fun k c hk => by omega⟩
    · obtain ⟨i, h1, h2⟩ := least_no t ((List.mem_cons.1 h).resolve_left (Ne.symm hc))
      refine ⟨i + 1, by simpa using h1, fun k c' hk hk2 => ?_⟩
      cases k with
      | zero => simp at hk2; subst hk2; exact hc
      | succ k => exact h2 k c' (by omega) (by simpa using hk2)

section
variable (p : Nat) (F : Nat → Prop) (x : Rp) (w : World)
theorem gp_alloc_any (h : GP w p F x) (ho : x.was ≠ none) :
    Calls Tryd.prog 9 #[.pointer (some ⟨p, 0, none⟩)] w fun e' w' =>
      (∃ i : Nat, x.now[i]? = some .no ∧ (∀ (k : Nat) c, k < i → x.now[k]? = some c → c ≠ .no) ∧ e' = .returned (.tuple #[.int .i64 i, .int .i64 0]) ∧ GPTo w w' p F (x.put i .zero)) ∨
      (¬ (0 ≤ x.slack ∧ Pk.no ∈ x.now) ∧ e' = .returned (.tuple #[.int .i64 0, .int .i64 21]) ∧ Grew w w') := by
  by_cases hn : Pk.no ∈ x.now
  · obtain ⟨i, h1, h2⟩ := least_no x.now hn
    by_cases hm : (x.need (i / x.row) 0 : Nat) ≤ x.room
    · refine (gp_alloc_ok p i F x w h ho h1 h2 hm).mono ?_
      rintro e w' ⟨rfl, h3⟩
      exact .inl ⟨i, h1, h2, rfl, h3⟩
    · refine (gp_alloc_full p i F x w h ho h1 h2 (by omega)).mono ?_
      rintro e w' ⟨rfl, h3⟩
      refine .inr ⟨fun hs => hm (h.need (h.part (List.getElem?_eq_some_iff.1 h1).1) (by simpa using hs.1)), rfl, h3⟩
  · refine (gp_alloc_none p F x w h ho fun c hc e => hn (e ▸ hc)).mono ?_
    rintro e w' ⟨rfl, rfl⟩
    exact .inr ⟨fun hs => hn hs.2, rfl, Chg.refl _ _⟩
theorem gp_write_any (i : Nat) (bs : List Int) (Ab : Option Addr) (cb : Nat) (c : Pk) (h : GP w p F x) (ho : x.was ≠ none) (hi : x.now[i]? = some c) (hu : c.used = true)
    (hb : bs.length = x.sz) (hby : ∀ q ∈ bs, 0 ≤ q ∧ q ≤ 255) (hA : Ab ≠ none) (hsl : Sl w 1 Ab bs.length (bv bs)) (hsF : ∀ a, Ab = some a → ¬ F a.block) :
    Calls Tryd.prog 10 #[.pointer (some ⟨p, 0, none⟩), .int .i64 i, .slice Ab bs.length cb] w fun e' w' =>
      (e' = .returned (.int .i64 0) ∧ GPTo w w' p F (x.put i (.new bs))) ∨ (¬ (1 ≤ x.slack) ∧ c.isNew = false ∧ e' = .returned (.int .i64 21) ∧ Grew w w') := by
  by_cases hm : c.isNew = true ∨ (x.need (i / x.row) 1 : Nat) ≤ x.room
  · exact (gp_write p i F x w bs Ab cb c h ho hi hu hm hb hby hA hsl hsF).mono fun e w' k => .inl k
  · have hn : c.isNew = false := by cases e : c.isNew with | false => rfl | true => exact absurd (.inl e) hm
    have hr : x.room < (x.need (i / x.row) 1 : Nat) := by
      have : ¬ ((x.need (i / x.row) 1 : Nat) : Int) ≤ x.room := fun e => hm (.inr e)
      omega
    refine (gp_write_full p i F x w Ab cb bs.length c h ho hi hu hn hr hb).mono ?_
    rintro e w' ⟨rfl, h3⟩
    exact .inr ⟨fun hs => by have := h.need (h.part (List.getElem?_eq_some_iff.1 hi).1) (m := 1) (by simpa using hs); omega, hn, rfl, h3⟩
end

end Go.Proofs.YtjlfnebkibgfmaaDoor

/- The chain: Put: its words. -/
namespace Go.Proofs.YtjlfnebkibgfmaaDoor
open Go.RowKit Go.Maps

/-- How many parts a record has, each of n bytes at most. -/
def partsN (len n : Nat) : Nat := (len - 1) / n + 1
theorem parts_lt {len n : Nat} (hl : 1 ≤ len) (hn : 1 ≤ n) (k : Nat) : k * n < len ↔ k < partsN len n := by
  unfold partsN
  have := Nat.le_div_iff_mul_le (x := k) (y := len - 1) (k := n) (by omega)
  omega
def part (n : Nat) (bs : List Int) (k : Nat) : List Int := (bs.drop (k * n)).take n
theorem part_len (n : Nat) (bs : List Int) (k : Nat) : (part n bs k).length = min n (bs.length - k * n) := by unfold part; simp
theorem pgL_len {bs : List Int} {next sz : Nat} (h : bs.length + 5 ≤ sz) : (pgL bs next sz).length = sz := by unfold pgL; simp; omega
theorem pgL_byte {bs : List Int} {next sz : Nat} (h : ∀ q ∈ bs, 0 ≤ q ∧ q ≤ 255) : ∀ q ∈ pgL bs next sz, 0 ≤ q ∧ q ≤ 255 := by
  intro q hq
  unfold pgL at hq
  simp only [List.mem_append, List.mem_cons, List.not_mem_nil, or_false, List.mem_replicate] at hq
  rcases hq with ((rfl | rfl | rfl | rfl | rfl) | hq) | ⟨-, rfl⟩
  · omega
  · omega
  · omega
  · omega
  · omega
  · exact h q hq
  · omega
theorem part_byte {n : Nat} {bs : List Int} {k : Nat} (h : ∀ q ∈ bs, 0 ≤ q ∧ q ≤ 255) : ∀ q ∈ part n bs k, 0 ≤ q ∧ q ≤ 255 := fun q hq => h q (List.mem_of_mem_drop (List.mem_of_mem_take hq))
/-- What a page names as the next one. -/
def nextOf (l : List Nat) (k : Nat) : Nat := match l[k + 1]? with | some j => j + 1 | none => 0
/-- A record stands in these pages. -/
structure Stands (x : Rp) (l : List Nat) (bs : List Int) : Prop where
  len : l.length = partsN bs.length (x.sz - 5)
  nd : l.Nodup
  at_ : ∀ k i : Nat, l[k]? = some i → ∃ c, x.now[i]? = some c ∧ c.used = true ∧ c.bytes x.sz = pgL (part (x.sz - 5) bs k) (nextOf l k) x.sz
/-- Is there room at any rate? -/
def Rp.enough (x : Rp) (m : Nat) : Prop := (m : Int) ≤ x.slack ∧ x.now.countP Pk.used + m ≤ x.now.length
/-- Some pages are taken. -/
structure Took (x y : Rp) (l : List Nat) : Prop where
  like : x.like y
  nd : l.Nodup
  was : ∀ i ∈ l, x.now[i]? = some .no
  is : ∀ i ∈ l, y.now[i]? = some .zero
  else_ : ∀ i, i ∉ l → y.now[i]? = x.now[i]?
  slack : y.slack = x.slack
  used : y.now.countP Pk.used = x.now.countP Pk.used + l.length
theorem Took.refl (x : Rp) : Took x x [] := ⟨.refl x, List.nodup_nil, fun i h => by simp at h, fun i h => by simp at h, fun _ _ => rfl, rfl, rfl⟩
theorem Took.more {x y : Rp} {l : List Nat} {i : Nat} (h : Took x y l) (hw : x.was ≠ none) (hi : y.now[i]? = some .no) : Took x (y.put i .zero) (l ++ [i]) := by
  have hl : i ∉ l := fun e => by have := h.is i e; rw [hi] at this; cases this
  have hil : i < y.now.length := (List.getElem?_eq_some_iff.1 hi).1
  refine ⟨h.like.trans (y.put_like i .zero), List.nodup_append.2 ⟨h.nd, by simp, fun a ha b hb e => ?_⟩, fun j hj => ?_, fun j hj => ?_, fun j hj => ?_, ?_, ?_⟩
  · simp only [List.mem_singleton] at hb; subst hb; exact hl (e ▸ ha)
  · rcases List.mem_append.1 hj with e | e
    · exact h.was j e
    · simp only [List.mem_singleton] at e; subst e; rw [← h.else_ j hl]; exact hi
  · rw [Rp.put_at hil]
    rcases List.mem_append.1 hj with e | e
    · rw [if_neg (by rintro rfl; exact hl e)]; exact h.is j e
    · simp only [List.mem_singleton] at e; rw [if_pos e]
  · simp only [List.mem_append, List.mem_singleton, not_or] at hj
    rw [Rp.put_at hil, if_neg hj.2]
    exact h.else_ j hj.1
  · have := Rp.put_slack (c := .zero) (by rw [h.like.was]; exact hw) hi
    simp [Pk.isNew] at this
    rw [this, h.slack]
  · have := Rp.put_used (c := .zero) hi
    simp [Pk.used] at this
    rw [this, h.used, List.length_append]
    rfl
/-- The first k of them are written. -/
structure Wrote (x y : Rp) (l : List Nat) (bs : List Int) (k : Nat) : Prop where
  like : x.like y
  is : ∀ j i : Nat, l[j]? = some i → y.now[i]? = some (if j < k then .new (pgL (part (x.sz - 5) bs j) (nextOf l j) x.sz) else .zero)
  else_ : ∀ i, i ∉ l → y.now[i]? = x.now[i]?
  slack : y.slack + k = x.slack
  used : y.now.countP Pk.used = x.now.countP Pk.used
theorem Took.wrote {x y : Rp} {l : List Nat} (h : Took x y l) (bs : List Int) : Wrote y y l bs 0 := ⟨.refl y, fun j i hi => by simpa using h.is i (List.mem_of_getElem? hi), fun _ _ => rfl, by simp, rfl⟩
theorem Wrote.more {x y : Rp} {l : List Nat} {bs : List Int} {k i : Nat} (h : Wrote x y l bs k) (hw : x.was ≠ none) (hn : l.Nodup) (hi : l[k]? = some i) : Wrote x (y.put i (.new (pgL (part (x.sz - 5) bs k) (nextOf l k) x.sz))) l bs (k + 1) := by
  have hz : y.now[i]? = some .zero := by have := h.is k i hi; simpa using this
  have hil : i < y.now.length := (List.getElem?_eq_some_iff.1 hz).1
  refine ⟨h.like.trans (y.put_like _ _), fun j q hq => ?_, fun j hj => ?_, ?_, ?_⟩
  · rw [Rp.put_at hil]
    by_cases e : q = i
    · subst e
      have hjk : j = k := (List.getElem?_inj (List.getElem?_eq_some_iff.1 hq).1 hn).1 (by rw [hq, hi])
      subst hjk
      rw [if_pos rfl, if_pos (by omega)]
    · have hjk : j ≠ k := by rintro rfl; rw [hq] at hi; injection hi with hi; exact e hi
      rw [if_neg e, h.is j q hq]
      by_cases hlt : j < k
      · rw [if_pos hlt, if_pos (by omega)]
      · rw [if_neg hlt, if_neg (by omega)]
  · rw [Rp.put_at hil, if_neg (by rintro rfl; exact hj (List.mem_of_getElem? hi))]
    exact h.else_ j hj
  · have := Rp.put_slack (c := .new (pgL (part (x.sz - 5) bs k) (nextOf l k) x.sz)) (by rw [h.like.was]; exact hw) hz
    have h2 := h.slack
    simp [Pk.isNew] at this
    omega
  · have := Rp.put_used (c := .new (pgL (part (x.sz - 5) bs k) (nextOf l k) x.sz)) hz
    simp [Pk.used] at this
    rw [this, h.used]
/-- What a Put that is done makes. -/
structure PutRel (x y : Rp) (l : List Nat) (bs : List Int) : Prop where
  like : x.like y
  stands : Stands y l bs
  was : ∀ i ∈ l, x.now[i]? = some .no
  else_ : ∀ i, i ∉ l → y.now[i]? = x.now[i]?
  slack : y.slack + l.length = x.slack
  used : y.now.countP Pk.used = x.now.countP Pk.used + l.length
theorem Wrote.done {x y z : Rp} {l : List Nat} {bs : List Int} (h : Took x y l) (k : Wrote y z l bs l.length) (hl : l.length = partsN bs.length (x.sz - 5)) : PutRel x z l bs := by
  have hz : z.sz = y.sz := k.like.sz
  refine ⟨h.like.trans k.like, ⟨by rw [hz, h.like.sz]; exact hl, h.nd, fun j i hi => ?_⟩, h.was, fun i hi => by rw [k.else_ i hi, h.else_ i hi], by rw [k.slack, h.slack], by rw [k.used, h.used]⟩
  have hj : j < l.length := (List.getElem?_eq_some_iff.1 hi).1
  have := k.is j i hi
  rw [if_pos hj] at this
  exact ⟨_, this, rfl, by rw [hz]; rfl⟩

/-- Put, as its memory stands: the boxes of the pager, of the two results, of the pages. -/
structure PutW (w wr : World) (a0 p : Nat) (F F' : Nat → Prop) (x : Rp) (l : List Nat) (v : Value) : Prop where
  gp : GP wr p F' x
  rch : Rch F F' w wr
  bp : Blk wr a0 26 #[.pointer (some ⟨p, 0, none⟩)]
  b1 : Blk wr (a0 + 1) 3 #[.int .i64 0]
  b2 : Blk wr (a0 + 2) 33 #[.int .i64 0]
  b3 : Blk wr (a0 + 3) 39 #[v]
  row : wr.ownsRow (a0 + 4) 3 1 v l.length (nv l)
  rn : ∀ g, v.ownBlock = some g → ¬ F' g
  nf : ∀ j, a0 ≤ j → j < a0 + 4 → ¬ F' j
  sz : w.heap.size = a0
section
variable {w wr w' : World} {a0 p : Nat} {F F' : Nat → Prop} {x y : Rp} {l : List Nat} {v v' : Value}
theorem PutW.grew (h : PutW w wr a0 p F F' x l v) (hg : Grew wr w') : PutW w w' a0 p F F' x l v :=
  ⟨h.gp.grew hg, h.rch.trans (Rch.grew hg), h.bp.grew hg, h.b1.grew hg, h.b2.grew hg, h.b3.grew hg, own_grew h.row hg, h.rn, h.nf, h.sz⟩
theorem PutW.step (h : PutW w wr a0 p F F' x l v) (k : GPTo wr w' p F' y) : ∃ F2, PutW w w' a0 p F F2 y l v := by
  obtain ⟨F2, k1, k2, k3⟩ := k
  have hlt := h.b3.lt
  refine ⟨F2, k1, h.rch.trans ⟨k2, k3⟩, h.bp.chg k2 (h.nf _ (by omega) (by omega)), h.b1.chg k2 (h.nf _ (by omega) (by omega)), h.b2.chg k2 (h.nf _ (by omega) (by omega)), h.b3.chg k2 (h.nf _ (by omega) (by omega)), own_chg h.row k2 fun g hg => h.rn g hg, fun g hg e => ?_, fun j h1 h2 e => ?_, h.sz⟩
  · rcases k3 g e with e | e
    · exact h.rn g hg e
    · have := (h.row.lt g hg).2; omega
  · rcases k3 j e with e | e
    · exact h.nf j h1 h2 e
    · omega
theorem PutW.push (h : PutW w wr a0 p F F' x l v) {i : Nat} (ha : Ap wr w' v v') (ho : w'.ownsRow (a0 + 4) 3 1 v' (l.length + 1) (nv l ++ [.int .i64 i])) : PutW w (w'.setCell ⟨a0 + 3, 0, none⟩ v') a0 p F F' x (l ++ [i]) v' := by
  have hb : ∀ g, v.ownBlock = some g → a0 + 4 ≤ g := fun g hg => (h.row.lt g hg).1
  have hlt := h.b3.lt
  have hc : Chg (fun j => v.ownBlock = some j ∨ j = a0 + 3) wr (w'.setCell ⟨a0 + 3, 0, none⟩ v') := (ha.chg.mono fun _ _ e => .inl e).setCell (p := ⟨a0 + 3, 0, none⟩) (fun _ => .inr rfl) _
  have hgF : ∀ j, (v.ownBlock = some j ∨ j = a0 + 3) → ¬ F' j := by
    rintro j (e | rfl)
    · exact h.rn j e
    · exact h.nf _ (by omega) (by omega)
  have hno : ∀ j, j < a0 + 3 → ¬ (v.ownBlock = some j ∨ j = a0 + 3) := by
    rintro j hj (e | e)
    · have := hb j e; omega
    · omega
  have hc3 : Chg (fun j => j = a0 + 3) w' (w'.setCell ⟨a0 + 3, 0, none⟩ v') := (Chg.refl (fun j => j = a0 + 3) _).setCell (p := ⟨a0 + 3, 0, none⟩) (fun _ => rfl) _
  refine ⟨h.gp.chg hc (fun j hj e => hgF j e hj) (hno 0 (by omega)), ⟨Chg.trans h.rch.chg hc fun i hi e => ?_, fun j hj => h.rch.new j hj⟩, h.bp.chg hc (hno _ (by omega)), h.b1.chg hc (hno _ (by omega)), h.b2.chg hc (hno _ (by omega)), ?_, ?_, fun g hg e => ?_, h.nf, h.sz⟩
  · have := h.sz
    exact absurd e (hno i (by omega))
  · have := (h.b3.chg ha.chg (fun e => by have := hb _ e; omega)).put 0 v'
    simpa using this
  · have e : (l ++ [i]).length = l.length + 1 := by simp
    rw [e]
    have := own_chg ho hc3 fun g hg e => by have := (ho.lt g hg).1; omega
    simpa [nv] using this
  · rcases ha.at_ g hg with e2 | e2
    · exact h.rn g e2 e
    · have := h.gp.lt g e; omega
/-- The end: the results are stored. -/
theorem PutW.out (h : PutW w wr a0 p F F' x l v) : GPTo w wr p F x := ⟨F', h.gp, h.rch.chg, h.rch.new⟩
theorem PutW.fin (h : PutW w wr a0 p F F' x l v) (hg : Grew wr w') (u1 u2 : Value) : GPTo w ((w'.setCell ⟨a0 + 1, 0, none⟩ u1).setCell ⟨a0 + 2, 0, none⟩ u2) p F x := by
  have hc : Chg (fun j => j = a0 + 1 ∨ j = a0 + 2) w' ((w'.setCell ⟨a0 + 1, 0, none⟩ u1).setCell ⟨a0 + 2, 0, none⟩ u2) := ((Chg.refl (fun j => j = a0 + 1 ∨ j = a0 + 2) _).setCell (p := ⟨a0 + 1, 0, none⟩) (fun _ => .inl rfl) _).setCell (p := ⟨a0 + 2, 0, none⟩) (fun _ => .inr rfl) _
  have h2 := h.grew hg
  have hsz := h.sz
  refine ⟨F', h2.gp.chg hc (fun j hj e => ?_) (by omega), Chg.trans h2.rch.chg hc fun i hi e => by omega, h2.rch.new⟩
  rcases e with rfl | rfl
  · exact h.nf _ (by omega) (by omega) hj
  · exact h.nf _ (by omega) (by omega) hj
end

end Go.Proofs.YtjlfnebkibgfmaaDoor

/- The chain: Put: the words of its second loop. -/
namespace Go.Proofs.YtjlfnebkibgfmaaDoor
open Go.RowKit Go.Maps

/-- The second loop's state: the pages z, the first k of l written, the counter's box at kb with kk, the loop's record at L, its marks at D; all of it below m. -/
structure PutR (w W : World) (a0 p : Nat) (F : Nat → Prop) (y : Rp) (l : List Nat) (v : Value) (bs : List Int) (g off c n kb m D L : Nat) (r : Loop) (k kk : Nat) (st : LoopState) (pe : Option Code) (z : Rp) (F2 : Nat → Prop) : Prop where
  pw : PutW w W a0 p F F2 z l v
  wr : Wrote y z l bs k
  bk : Blk W kb 3 #[.int .i64 kk]
  ci : ChunkIn W (kb + 1) (kb + 2) (some ⟨g, off, none⟩) bs.length c n
  df : Dfr W D
  rc : Rec W L (Loop.at_ r st pe)
  nf : ∀ j, kb ≤ j → j < m → ¬ F2 j
  lt : kb + 2 < m ∧ D < m ∧ L < m ∧ kb + 2 < D ∧ kb + 2 < L ∧ D ≠ L ∧ m ≤ W.heap.size ∧ a0 + 4 ≤ kb ∧ ∀ g, v.ownBlock = some g → g < kb
section
variable {w W W' : World} {a0 p : Nat} {F F2 : Nat → Prop} {y z z' : Rp} {l : List Nat} {v : Value} {bs : List Int} {g off c n kb m D L k kk k' : Nat} {r : Loop} {st st' : LoopState} {pe pe' : Option Code}
/-- What is far from the pages and the boxes turns. -/
theorem PutW.far {G : Nat → Prop} {x : Rp} {F' : Nat → Prop} (h : PutW w W a0 p F F' x l v) (hc : Chg G W W') (h1 : ∀ j, F' j → ¬ G j) (h2 : ∀ j, j < a0 + 4 → ¬ G j) (h3 : ∀ g, v.ownBlock = some g → ¬ G g) : PutW w W' a0 p F F' x l v :=
  ⟨h.gp.chg hc h1 (h2 0 (by omega)), ⟨Chg.trans h.rch.chg hc fun i hi e => absurd e (h2 i (by have := h.sz; omega)), h.rch.new⟩, h.bp.chg hc (h2 _ (by omega)), h.b1.chg hc (h2 _ (by omega)), h.b2.chg hc (h2 _ (by omega)), h.b3.chg hc (h2 _ (by omega)), own_chg h.row hc h3, h.rn, h.nf, h.sz⟩
theorem PutR.kept (h : PutR w W a0 p F y l v bs g off c n kb m D L r k kk st pe z F2) (hk : Kept L W W') (hR : Rec W' L (Loop.at_ r st' pe')) : PutR w W' a0 p F y l v bs g off c n kb m D L r k kk st' pe' z F2 := by
  obtain ⟨l1, l2, l3, l4, l5, l6, l7, l8, l9⟩ := h.lt
  refine ⟨h.pw.far hk.chg (fun j hj e => h.nf j (by omega) (by omega) hj) (fun j hj e => by omega) (fun g hg e => by have := l9 g hg; omega), h.wr, h.bk.kept hk, ⟨h.ci.b1.kept hk, h.ci.b2.kept hk⟩, h.df.kept hk l6, hR, h.nf, ?_⟩
  have := hk.chg.size
  exact ⟨l1, l2, l3, l4, l5, l6, by omega, l8, l9⟩
theorem PutR.grew (h : PutR w W a0 p F y l v bs g off c n kb m D L r k kk st pe z F2) (hg : Grew W W') : PutR w W' a0 p F y l v bs g off c n kb m D L r k kk st pe z F2 := by
  obtain ⟨l1, l2, l3, l4, l5, l6, l7, l8, l9⟩ := h.lt
  have := hg.size
  exact ⟨h.pw.grew hg, h.wr, h.bk.grew hg, ⟨h.ci.b1.grew hg, h.ci.b2.grew hg⟩, h.df.grew hg, h.rc.grew hg, h.nf, ⟨l1, l2, l3, l4, l5, l6, by omega, l8, l9⟩⟩
theorem PutR.step (h : PutR w W a0 p F y l v bs g off c n kb m D L r k kk st pe z F2) (hs : GPTo W W' p F2 z') (hw : Wrote y z' l bs k') : ∃ F3, PutR w W' a0 p F y l v bs g off c n kb m D L r k' kk st pe z' F3 := by
  obtain ⟨l1, l2, l3, l4, l5, l6, l7, l8, l9⟩ := h.lt
  obtain ⟨F3, k1, k2, k3⟩ := hs
  have hlt := h.pw.b3.lt
  have hsz := k2.size
  have hno : ∀ j, kb ≤ j → j < m → ¬ F3 j := fun j hj1 hj2 e => by
    rcases k3 j e with e | e
    · exact h.nf j hj1 hj2 e
    · omega
  refine ⟨F3, ⟨k1, h.pw.rch.trans ⟨k2, k3⟩, h.pw.bp.chg k2 (h.pw.nf _ (by omega) (by omega)), h.pw.b1.chg k2 (h.pw.nf _ (by omega) (by omega)), h.pw.b2.chg k2 (h.pw.nf _ (by omega) (by omega)), h.pw.b3.chg k2 (h.pw.nf _ (by omega) (by omega)), own_chg h.pw.row k2 fun g hg => h.pw.rn g hg, fun g hg e => ?_, fun j h1 h2 e => ?_, h.pw.sz⟩,
    hw, h.bk.chg k2 (h.nf _ (by omega) (by omega)), ⟨h.ci.b1.chg k2 (h.nf _ (by omega) (by omega)), h.ci.b2.chg k2 (h.nf _ (by omega) (by omega))⟩, h.df.chg k2 (h.nf _ (by omega) (by omega)), h.rc.chg k2 (h.nf _ (by omega) (by omega)), hno, ⟨l1, l2, l3, l4, l5, l6, by omega, l8, l9⟩⟩
  · rcases k3 g e with e | e
    · exact h.pw.rn g hg e
    · have := (h.pw.row.lt g hg).2; omega
  · rcases k3 j e with e | e
    · exact h.pw.nf j h1 h2 e
    · omega
theorem PutR.next (h : PutR w W a0 p F y l v bs g off c n kb m D L r k kk st pe z F2) (k' : Nat) : PutR w (W.setCell ⟨kb, 0, none⟩ (.int .i64 k')) a0 p F y l v bs g off c n kb m D L r k k' st pe z F2 := by
  obtain ⟨l1, l2, l3, l4, l5, l6, l7, l8, l9⟩ := h.lt
  have hc : Chg (fun j => j = kb) W (W.setCell ⟨kb, 0, none⟩ (.int .i64 k')) := (Chg.refl (fun j => j = kb) _).setCell (p := ⟨kb, 0, none⟩) (fun _ => rfl) _
  refine ⟨h.pw.far hc (fun j hj e => h.nf j (by omega) (by omega) hj) (fun j hj e => by omega) (fun g hg e => by have := l9 g hg; omega), h.wr, ?_, ⟨h.ci.b1.chg hc (by omega), h.ci.b2.chg hc (by omega)⟩, h.df.chg hc (by omega), h.rc.chg hc (by omega), h.nf, ⟨l1, l2, l3, l4, l5, l6, by simpa [World.setCell] using l7, l8, l9⟩⟩
  have := h.bk.put 0 (.int .i64 k')
  simpa using this
/-- A failed Put: what is left. -/
structure PutX (w W : World) (a0 p : Nat) (F : Nat → Prop) (x z : Rp) (m D L : Nat) (r : Loop) (st : LoopState) (pe : Option Code) : Prop where
  gto : GPTo w W p F z
  b1 : Blk W (a0 + 1) 3 #[.int .i64 0]
  b2 : Blk W (a0 + 2) 33 #[.int .i64 21]
  df : Dfr W D
  rc : Rec W L (Loop.at_ r st pe)
  nf : ∃ F', GP W p F' z ∧ Chg F w W ∧ (∀ j, F' j → F j ∨ w.heap.size ≤ j) ∧ ¬ F' L ∧ ¬ F' D
  lt : w.heap.size ≤ L ∧ w.heap.size ≤ D ∧ D ≠ L ∧ 0 < L ∧ 0 < D
theorem PutX.mk' {x : Rp} (h : PutR w W a0 p F y l v bs g off c n kb m D L r k kk st pe z F2) (hc : x.like z) : PutX w ((W.setCell ⟨a0 + 1, 0, none⟩ (.int .i64 0)).setCell ⟨a0 + 2, 0, none⟩ (.int .i64 21)) a0 p F x z m D L r st pe := by
  obtain ⟨l1, l2, l3, l4, l5, l6, l7, l8, l9⟩ := h.lt
  have hcg : Chg (fun j => j = a0 + 1 ∨ j = a0 + 2) W ((W.setCell ⟨a0 + 1, 0, none⟩ (.int .i64 0)).setCell ⟨a0 + 2, 0, none⟩ (.int .i64 21)) := ((Chg.refl (fun j => j = a0 + 1 ∨ j = a0 + 2) _).setCell (p := ⟨a0 + 1, 0, none⟩) (fun _ => .inl rfl) _).setCell (p := ⟨a0 + 2, 0, none⟩) (fun _ => .inr rfl) _
  have hsz := h.pw.sz
  have hgp : GP ((W.setCell ⟨a0 + 1, 0, none⟩ (.int .i64 0)).setCell ⟨a0 + 2, 0, none⟩ (.int .i64 21)) p F2 z := h.pw.gp.chg hcg (fun j hj e => by rcases e with rfl | rfl <;> exact h.pw.nf _ (by omega) (by omega) hj) (by omega)
  have hch : Chg F w ((W.setCell ⟨a0 + 1, 0, none⟩ (.int .i64 0)).setCell ⟨a0 + 2, 0, none⟩ (.int .i64 21)) := Chg.trans h.pw.rch.chg hcg fun i hi e => by omega
  refine ⟨h.pw.fin (Chg.refl _ _) _ _, ?_, ?_, h.df.chg hcg (by omega), h.rc.chg hcg (by omega), ⟨F2, hgp, hch, h.pw.rch.new, h.nf L (by omega) (by omega), h.nf D (by omega) (by omega)⟩, by omega⟩
  · have := (h.pw.b1.put 0 (.int .i64 0)).far (p := ⟨a0 + 2, 0, none⟩) (by simp) (.int .i64 21)
    simpa using this
  · have := (h.pw.b2.far (p := ⟨a0 + 1, 0, none⟩) (by simp) (.int .i64 0)).put 0 (.int .i64 21)
    simpa using this
theorem PutX.kept {x : Rp} (h : PutX w W a0 p F x z m D L r st pe) (hk : Kept L W W') (hR : Rec W' L (Loop.at_ r st' pe')) : PutX w W' a0 p F x z m D L r st' pe' := by
  obtain ⟨l1, l2, l3, l4, l5⟩ := h.lt
  obtain ⟨F', n1, n2, n3, n4, n5⟩ := h.nf
  have hgp : GP W' p F' z := n1.chg hk.chg (fun j hj e => n4 (e ▸ hj)) (by omega)
  have hch : Chg F w W' := n2.kept hk l1
  exact ⟨⟨F', hgp, hch, n3⟩, h.b1.kept hk, h.b2.kept hk, h.df.kept hk l3, hR, ⟨F', hgp, hch, n3, n4, n5⟩, h.lt⟩
theorem PutX.offL {x : Rp} (h : PutX w W a0 p F x z m D L r st pe) (hk : Kept L W W') : Dfr W' D ∧ Blk W' (a0 + 1) 3 #[.int .i64 0] ∧ Blk W' (a0 + 2) 33 #[.int .i64 21] ∧ ∀ W2, Kept D W' W2 → GPTo w W2 p F z := by
  obtain ⟨l1, l2, l3, l4, l5⟩ := h.lt
  obtain ⟨F', n1, n2, n3, n4, n5⟩ := h.nf
  have hgp : GP W' p F' z := n1.chg hk.chg (fun j hj e => n4 (e ▸ hj)) (by omega)
  exact ⟨h.df.kept hk l3, h.b1.kept hk, h.b2.kept hk, fun W2 hk2 => ⟨F', hgp.chg hk2.chg (fun j hj e => n5 (e ▸ hj)) (by omega), (n2.kept hk l1).kept hk2 l2, n3⟩⟩
theorem PutW.fin2 {x : Rp} {F' : Nat → Prop} (h : PutW w W a0 p F F' x l v) (u1 u2 : Value) (hD : a0 + 4 ≤ D) (hn : ¬ F' D) (hk : Kept D ((W.setCell ⟨a0 + 1, 0, none⟩ u1).setCell ⟨a0 + 2, 0, none⟩ u2) W') : GPTo w W' p F x := by
  have hc : Chg (fun j => j = a0 + 1 ∨ j = a0 + 2) W ((W.setCell ⟨a0 + 1, 0, none⟩ u1).setCell ⟨a0 + 2, 0, none⟩ u2) := ((Chg.refl (fun j => j = a0 + 1 ∨ j = a0 + 2) _).setCell (p := ⟨a0 + 1, 0, none⟩) (fun _ => .inl rfl) _).setCell (p := ⟨a0 + 2, 0, none⟩) (fun _ => .inr rfl) _
  have hsz := h.sz
  refine ⟨F', (h.gp.chg hc (fun j hj e => ?_) (by omega)).chg hk.chg (fun j hj e => hn (e ▸ hj)) (by omega), (Chg.trans h.rch.chg hc fun i hi e => by omega).kept hk (by omega), h.rch.new⟩
  rcases e with rfl | rfl
  · exact h.nf _ (by omega) (by omega) hj
  · exact h.nf _ (by omega) (by omega) hj
/-- What a round reads. -/
theorem PutR.cells {A : Option Addr} {cc rg i : Nat} (h : PutR w W a0 p F y l (.slice A l.length cc) bs g off c n kb m D L r k kk st pe z F2) (hA : A = some ⟨rg, 0, none⟩) (hi : l[kk]? = some i) :
    W.cell? ⟨a0, 0, none⟩ = some (.pointer (some ⟨p, 0, none⟩)) ∧ W.cell? ⟨a0 + 1 + 1 + 1, 0, none⟩ = some (.slice (some ⟨rg, 0, none⟩) l.length cc) ∧ W.cell? ⟨kb, 0, none⟩ = some (.int .i64 kk) ∧ W.cell? ⟨rg, kk, none⟩ = some (.int .i64 i) := by
  subst hA
  refine ⟨h.pw.bp.cell 0, h.pw.b3.cell 0, h.bk.cell 0, ?_⟩
  have := h.pw.row.cells (g := rg) rfl kk (.int .i64 i) (by simp [nv, hi])
  rwa [Addr.add_lit, Nat.zero_add] at this
theorem PutR.offL (h : PutR w W a0 p F y l v bs g off c n kb m D L r k kk st pe z F2) (hk : Kept L W W') : PutW w W' a0 p F F2 z l v ∧ Dfr W' D := by
  obtain ⟨l1, l2, l3, l4, l5, l6, l7, l8, l9⟩ := h.lt
  exact ⟨h.pw.far hk.chg (fun j hj e => h.nf j (by omega) (by omega) hj) (fun j hj e => by omega) (fun g hg e => by have := l9 g hg; omega), h.df.kept hk l6⟩
/-- The end: the marks are taken off. -/
theorem PutR.end_ (h : PutR w W a0 p F y l v bs g off c n kb m D L r k kk st pe z F2) (hk : Kept D W W') : PutW w W' a0 p F F2 z l v := by
  obtain ⟨l1, l2, l3, l4, l5, l6, l7, l8, l9⟩ := h.lt
  exact h.pw.far hk.chg (fun j hj e => h.nf j (by omega) (by omega) hj) (fun j hj e => by omega) (fun g hg e => by have := l9 g hg; omega)
end

end Go.Proofs.YtjlfnebkibgfmaaDoor

/- A drawn region of a round, walked as one outside of it: one way, with what is held (program-free). -/
namespace Go.Proofs.YtjlfnebkibgfmaaDoor
open Go.RowKit

section
variable {P : Program} {n L : Nat} {ops : Array Oper} {Q : Exit → Act → World → Prop} {md : Region.Mode} {S : World → Prop}

theorem rowsIn_wide {n : Nat} {row : String} {args : Array Value} {w : World} {R : Value → World → Prop} (h : Rows P row args w R) : RowsIn Fence.wide n P row args w R :=
  fun c cs _ => let ⟨v, w', r, s⟩ := h c cs; ⟨v, w', r, stepsIn_wide.2 s⟩

theorem wpIn_of_wp {o : Oper} {a : Act} {w : World} {K : Act → World → Prop} (h : o.wp P a w K Q) : o.wpIn Fence.wide n P a w K Q := by
  unfold Oper.wp at h
  unfold Oper.wpIn
  refine ⟨fun f hf => trivial, ?_⟩
  rw [show (Fence.wide).round = none from rfl, Oper.semAt_none]
  generalize (execOp a.eval o).run P w = r at h ⊢
  cases r with
  | ok x w' =>
    cases x <;> simp only [Oper.upon, Oper.uponIn] at h ⊢
    all_goals first
      | exact h
      | exact ⟨fun hd => (by cases hd), callsIn_wide.2 h⟩
      | exact ⟨fun hd => (by cases hd), rowsIn_wide h⟩
      | exact h.elim
  | halt x w' => cases x <;> exact h

theorem wpOpIn_of_wpOp (hO : ∀ a w, Q .outgrown a w → False) {i : Nat} {a : Act} {w : World} {K : Act → World → Prop} (h : wpOp P ops Q i K a w) : wpOpIn Fence.wide n P ops Q i K a w := by
  unfold wpOp at h
  unfold wpOpIn
  cases ho : ops[i]? with
  | none => simpa [ho] using h
  | some o =>
    simp only [ho] at h ⊢
    split
    · rename_i hw
      simp only [hw, if_true] at h
      rcases h with h | ⟨_, a', w', h⟩
      · exact wpIn_of_wp h
      · exact (hO _ _ h).elim
    · rename_i hw
      simp only [hw] at h
      exact ⟨fun f hf => trivial, h⟩

theorem wpAnyIn_of_any (hO : ∀ a w, Q .outgrown a w → False) : ∀ (fuel : Nat) (listed : Array Bool) (a : Act) (w : World), wpAny P md ops Q fuel listed a w → wpAnyIn Fence.wide n P md ops Q fuel listed a w
  | 0, _, _, _, h => h
  | fuel + 1, _, _, _, h => ⟨h.1, fun i hi => wpOpIn_mono (fun a w => wpAnyIn_of_any hO fuel _ a w) (wpOpIn_of_wpOp hO (h.2 i hi))⟩

/-- A drawn region of a round that holds S. -/
theorem wpIn_region_held_round {id : Nat} {a : Act} {w : World} (hO : ∀ a w, Q .outgrown a w → False) (hm : P.follows .mixedOrders = true) (hnd : noDefer ops = true) (hS : S w.drew)
    (h : S w.drew → wpAnyH P .any ops Q S ops.size (Array.replicate ops.size false) a w.drew) : (Code.region id ops true).wpIn (Fence.wide.inRound L) n P Q a w :=
  wpIn_region_any hm (wpAnyIn_inRound hnd _ _ _ _ (wpAnyIn_of_any hO _ _ _ _ (wpAny_of_held _ _ _ _ (h hS))))
/-- .. and one of a fenced call. -/
theorem wpIn_region_held_wide {id : Nat} {a : Act} {w : World} (hO : ∀ a w, Q .outgrown a w → False) (hm : P.follows .mixedOrders = true) (hS : S w.drew)
    (h : S w.drew → wpAnyH P .any ops Q S ops.size (Array.replicate ops.size false) a w.drew) : (Code.region id ops true).wpIn Fence.wide n P Q a w :=
  wpIn_region_any hm (wpAnyIn_of_any hO _ _ _ _ (wpAny_of_held _ _ _ _ (h hS)))
end

end Go.Proofs.YtjlfnebkibgfmaaDoor

/- The chain: Put, walked. -/
namespace Go.Proofs.YtjlfnebkibgfmaaDoor
open Go.RowKit Go.Maps
attribute [local go_sem] Oper.semAt_some

theorem need_parts {len sz : Nat} (h1 : 1 ≤ len) (h2 : len ≤ 16384) (h3 : 64 ≤ sz) : needI len sz = (partsN len (sz - 5) : Nat) := by
  unfold needI partsN
  rw [if_neg (by omega)]
  rw [show (len : Int) - 1 = ((len - 1 : Nat) : Int) by omega, show (sz : Int) - 5 = ((sz - 5 : Nat) : Int) by omega, ← Int.natCast_ediv]
  omega
theorem Sl.sub {w : World} {g off : Nat} {bs : List Int} (h : Sl w 1 (some ⟨g, off, none⟩) bs.length (bv bs)) {i m : Nat} (him : i + m ≤ bs.length) (ys : List Int) (hy : ys = (bs.drop i).take m) : Sl w 1 (some ⟨g, off + i, none⟩) ys.length (bv ys) := by
  subst hy
  refine ⟨by rw [bv_len, Nat.mul_one], fun hn => ?_⟩
  have hl : ((bs.drop i).take m).length = m := by simp; omega
  rw [hl] at hn
  obtain ⟨b, o, e, hb, hx⟩ := h.2 (by omega)
  cases e
  refine ⟨g, off + i, rfl, hb, fun j u hu => ?_⟩
  have hj : j < m := by have := (List.getElem?_eq_some_iff.1 hu).1; rw [bv_len, hl] at this; exact this
  rw [Nat.add_assoc]
  refine hx (i + j) u ?_
  rw [← hu]
  simp only [bv, List.map_take, List.map_drop, List.getElem?_take, List.getElem?_drop]
  rw [if_pos hj]

theorem Wrote.done' {x y z : Rp} {l : List Nat} {bs : List Int} {K : Nat} (k : Wrote y z l bs K) (h : Took x y l) (hK : l.length = K) (hl : l.length = partsN bs.length (x.sz - 5)) : PutRel x z l bs := by
  subst hK
  exact k.done h hl
/-- What Put leaves. -/
def PutOut (w w' : World) (p : Nat) (F : Nat → Prop) (x : Rp) (bs : List Int) (e : Ending) : Prop :=
  (∃ (i0 : Nat) (l : List Nat) (y : Rp), e = .returned (.tuple #[.int .i64 i0, .int .i64 0]) ∧ l[0]? = some i0 ∧ GPTo w w' p F y ∧ PutRel x y l bs) ∨
  (∃ y : Rp, e = .returned (.tuple #[.int .i64 0, .int .i64 21]) ∧ GPTo w w' p F y ∧ x.like y ∧ ¬ x.enough (partsN bs.length (x.sz - 5)))

theorem PutW.keep3 {w wr w' : World} {a0 p : Nat} {F F' : Nat → Prop} {x : Rp} {l : List Nat} {v v' : Value} (h : PutW w wr a0 p F F' x l v) (ha : Ap wr w' v v') : Blk w' (a0 + 3) 39 #[v] := h.b3.chg ha.chg fun e => by have := (h.row.lt _ e).1; omega
theorem no_mem (l : List Pk) (h : l.countP Pk.used < l.length) : Pk.no ∈ l := by
  induction l with
  | nil => simp at h
  | cons c t ih =>
    by_cases hc : c = .no
    · subst hc; exact List.mem_cons_self
    · have hu : c.used = true := by cases c <;> simp_all [Pk.used]
      rw [List.countP_cons, List.length_cons, hu] at h
      exact List.mem_cons_of_mem _ (ih (by simp at h; omega))
/-- Between two rounds of the first loop. -/
def PutA (w wr : World) (a0 p : Nat) (F : Nat → Prop) (x : Rp) (k : Nat) : Prop := ∃ F' y l v, PutW w wr a0 p F F' y l v ∧ Took x y l ∧ l.length = k

set_option maxRecDepth 100000 in
set_option maxHeartbeats 6400000 in
theorem cput_any (p : Nat) (F : Nat → Prop) (x : Rp) (bs : List Int) (g off c : Nat) (w : World) (h : GP w p F x) (ho : x.was ≠ none) (hb1 : 1 ≤ bs.length) (hb2 : bs.length ≤ 16384) (hby : ∀ q ∈ bs, 0 ≤ q ∧ q ≤ 255) (hc : bs.length ≤ c)
    (hs : Sl w 1 (some ⟨g, off, none⟩) bs.length (bv bs)) (hgF : ¬ F g) :
    Calls Tryd.prog 16 #[.pointer (some ⟨p, 0, none⟩), .slice (some ⟨g, off, none⟩) bs.length c] w fun e w' => PutOut w w' p F x bs e := by
  have hsz := h.szs
  have t1 : decide ((bs.length : Int) < 1) = false := decide_eq_false (by omega)
  have t2 : decide ((16384 : Int) < (bs.length : Int)) = false := decide_eq_false (by omega)
  obtain ⟨a0, ha0⟩ : ∃ a0, w.heap.size = a0 := ⟨_, rfl⟩
  obtain ⟨W4, hW4⟩ : ∃ W, (((w.alloc (.cells #[.pointer (some ⟨p, 0, none⟩)] 26)).alloc (.cells #[.int .i64 0] 3)).alloc (.cells #[.int .i64 0] 33)).alloc (.cells #[.slice none 0 0] 39) = W := ⟨_, rfl⟩
  have HW4 := Lib.hid hW4
  obtain ⟨n, hn⟩ : ∃ n, x.sz - 5 = n := ⟨_, rfl⟩
  obtain ⟨len, hlen⟩ : ∃ len, bs.length = len := ⟨_, rfl⟩
  obtain ⟨K, hK⟩ : ∃ K, partsN len n = K := ⟨_, rfl⟩
  have HP0 := Lib.hid (show PutW w W4 a0 p F F x [] (.slice none 0 0) from by
    subst hW4 ha0
    have hg : Grew w ((((w.alloc (.cells #[.pointer (some ⟨p, 0, none⟩)] 26)).alloc (.cells #[.int .i64 0] 3)).alloc (.cells #[.int .i64 0] 33)).alloc (.cells #[.slice none 0 0] 39)) := ((((Chg.refl _ _).alloc _).alloc _).alloc _).alloc _
    refine ⟨h.grew hg, Rch.grew hg, ?_, ?_, ?_, ?_, World.ownsRow_nil _ _ _ _, fun g hg => by simp [Value.ownBlock] at hg, fun j h1 h2 e => by have := h.lt j e; omega, rfl⟩
    · exact (((Blk.new w _ _).alloc _).alloc _).alloc _
    · have := ((Blk.new (w.alloc (.cells #[.pointer (some ⟨p, 0, none⟩)] 26)) 3 #[.int .i64 0]).alloc (.cells #[.int .i64 0] 33)).alloc (.cells #[.slice none 0 0] 39)
      simpa using this
    · have := (Blk.new ((w.alloc (.cells #[.pointer (some ⟨p, 0, none⟩)] 26)).alloc (.cells #[.int .i64 0] 3)) 33 #[.int .i64 0]).alloc (.cells #[.slice none 0 0] 39)
      simpa using this
    · have := Blk.new (((w.alloc (.cells #[.pointer (some ⟨p, 0, none⟩)] 26)).alloc (.cells #[.int .i64 0] 3)).alloc (.cells #[.int .i64 0] 33)) 39 #[.slice none 0 0]
      simpa using this)
  have hKp : 1 ≤ K := by rw [← hK]; exact Nat.succ_le_succ (Nat.zero_le _)
  have hK2 : K ≤ 16384 := by rw [← hK]; unfold partsN; have := Nat.div_le_self (len - 1) n; omega
  have HX := Lib.hid (And.intro ho (And.intro hby (And.intro hs (And.intro hgF (And.intro ha0 (And.intro hn (And.intro hlen hK)))))))
  obtain ⟨c0, f0, s0⟩ := HP0.out.bp.facts
  have hneed : ∀ u, Calls Tryd.prog 6 #[.int .i64 len, .int .i64 x.sz] u fun e w' => e = .returned (.int .i64 K) ∧ u = w' := fun u => by
    have := need_any len x.sz u (by omega) (by omega)
    rw [need_parts (by omega) (by omega) (by omega), hn, hK] at this
    exact this
  have HN := Lib.hid hneed
  rw [hlen] at t1 t2 hb1 hb2 hc ⊢
  clear h ho hby hs hgF hW4 hn hK hneed
  (refine calls_of_marks Tryd.func16 rfl ?_; simp only [Tryd.ntmps16, List.size_toArray, List.length_cons, List.length_nil, Nat.reduceAdd, Nat.reduceSub, Array.replicate_succ, Array.replicate_zero, List.push_toArray, List.append_toArray, List.nil_append, List.cons_append])
  go_wp2_with (first
    | (rw [HW4.out])
    | (rw [ha0])
    | (go_at_call 26; (refine (gp_size p F x W4 HP0.out.gp).mono ?_); rintro e w1 ⟨rfl, rfl⟩)
    | (go_at_call 6; (refine (HN.out _).mono ?_); rintro e w1 ⟨rfl, rfl⟩))
  clear c0 f0 s0
  go_loopw [26] (fun q wr => ∃ k : Nat, k ≤ K ∧ q = .int .i64 k ∧ PutA w wr a0 p F x k) (fun q _ => K - (intOf q).toNat)
  case atStart => exact ⟨0, Nat.zero_le _, rfl, F, x, [], _, HP0.out, Took.refl x, rfl⟩
  case round =>
    obtain ⟨k, hk, rfl, F', y, l, v, hP, hT, hlk⟩ := hrel
    have HP := Lib.hid (And.intro hP (And.intro hT hlk))
    obtain ⟨c0, f0, s0⟩ := hP.bp.facts
    have hll : l.length ≤ 20000 := by omega
    clear hP hT hlk
    by_cases hlt : k < K
    · have u1 : (k : Int) < (K : Int) := by omega
      go_wp2_with fail
      refine (gp_alloc_any p F' y _ HP.out.1.gp (by rw [HP.out.2.1.like.was]; exact HX.out.1)).mono ?_
      rintro e w3 (⟨i, h1, h2, rfl, h3⟩ | ⟨hn3, rfl, hg3⟩)
      · obtain ⟨F2, hP2⟩ := HP.out.1.step h3
        have HP2 := Lib.hid (And.intro hP2 (HP.out.2.1.more HX.out.1 h1))
        obtain ⟨c1, f1, s1⟩ := hP2.b3.facts
        clear h1 h2 h3 hP2 c0 f0 s0
        go_wp2_with (at_builtin; (refine app_int rfl (.tmp 36) (.tmp 38) rfl (a0 + 4) v l.length (nv l) rfl HP2.out.1.row i rfl (by omega) (by have := HP2.out.1.b3.lt; omega) ?_); intro v' w' ho' ha'; obtain ⟨A', c', rfl, -⟩ := own_shape ho'; obtain ⟨c2, f2, s2⟩ := (HP2.out.1.keep3 ha').facts; have HO := Lib.hid (And.intro ho' ha'); clear ho' ha' c1 f1 s1)
        exact ⟨⟨k + 1, by omega, by simp, F2, _, l ++ [i], _, HP2.out.1.push HO.out.2 HO.out.1, HP2.out.2, by simp [HP.out.2.2]⟩, by simp [intOf]; omega⟩
      · have HPf := Lib.hid (HP.out.1.grew hg3)
        have HF := Lib.hid (And.intro hn3 hg3)
        obtain ⟨c1, f1, s1⟩ := HPf.out.b1.facts
        obtain ⟨c2, f2, s2⟩ := HPf.out.b2.facts
        clear hn3 hg3 c0 f0 s0
        go_wp2_with fail
        refine postM_ret0 (v := .tuple #[.int .i64 0, .int .i64 21]) ?_ rfl ?_
        · simp [results, Tryd.results16, go_sem, c1, f1, s1, c2, f2, s2]
        · refine .inr ⟨y, rfl, ?_, HP.out.2.1.like, fun he => HF.out.1 ?_⟩
          · exact HPf.out.fin (Chg.refl _ _) _ _
          · have h5 := HP.out.2.1
            have h6 := h5.used
            have h7 := h5.like.len
            have h8 := HP.out.2.2
            have h9 := he
            rw [HX.out.2.2.2.2.2.1, HX.out.2.2.2.2.2.2.1, HX.out.2.2.2.2.2.2.2] at h9
            exact ⟨by rw [h5.slack]; have := h9.1; omega, no_mem _ (by have := h9.2; omega)⟩
    · obtain rfl : K = k := by omega
      go_wp2_with fail
      have hysz : y.sz = x.sz := HP.out.2.1.like.sz
      have en : (x.sz : Int) - 5 = (n : Int) := by have := HX.out.2.2.2.2.2.1; omega
      have hps := gp_size p F' y _ (HP.out.1.gp.grew ((Chg.refl _ _).alloc (.cells #[.int .i64 0] 3)))
      rw [hysz] at hps
      refine hps.mono ?_
      clear hps hysz
      rintro e w1 ⟨rfl, rfl⟩
      obtain ⟨W5, hW5⟩ : ∃ W, wr.alloc (.cells #[.int .i64 0] 3) = W := ⟨_, rfl⟩
      obtain ⟨kb, hkb⟩ : ∃ q, wr.heap.size = q := ⟨_, rfl⟩
      have hz5 : W5.heap.size = kb + 1 := by rw [← hW5, ← hkb]; simp
      obtain ⟨W6, hW6⟩ : ∃ W, (W5.alloc (.cells #[.slice (some ⟨g, off, none⟩) len c] 29)).alloc (.cells #[.int .i64 n] 3) = W := ⟨_, rfl⟩
      have hn1 : 1 ≤ n := by have := HX.out.2.2.2.2.2.1; omega
      go_wp2_with fail
      have hch := chunk_any (some ⟨g, off, none⟩) len c n W5 W6 hn1 hW6
      rw [hz5] at hch
      refine hch.mono ?_
      clear hch
      rintro e w1 ⟨rfl, rfl⟩
      have HW := Lib.hid (And.intro hW5 (And.intro hkb (And.intro hW6 hz5)))
      clear hW5 hkb hW6 hz5 c0 f0 s0
      go_wp2_with fail
      have hl1 : 1 ≤ l.length := by have := HP.out.2.2; omega
      obtain ⟨A, cv, rfl, -⟩ := own_shape HP.out.1.row
      obtain ⟨rg, rfl, hrg⟩ := own_block HP.out.1.row (by omega)
      obtain ⟨hW5, hkb, hW6, hz5⟩ := HW.out
      have hz6 : W6.heap.size = kb + 3 := by rw [← hW6]; simp [hz5]
      have hbk6 : Blk W6 kb 3 #[.int .i64 0] := by
        rw [← hW6, ← hW5, ← hkb]
        exact ((Blk.new wr 3 #[.int .i64 0]).alloc _).alloc _
      have hb16 : Blk W6 (kb + 1) 29 #[.slice (some ⟨g, off, none⟩) len c] := by
        rw [← hW6, ← hz5]
        exact (Blk.new W5 _ _).alloc _
      have hb26 : Blk W6 (kb + 2) 3 #[.int .i64 n] := by
        rw [← hW6]
        have := Blk.new (W5.alloc (.cells #[.slice (some ⟨g, off, none⟩) len c] 29)) 3 #[.int .i64 n]
        simpa [hz5] using this
      have hg6 : Grew wr W6 := by rw [← hW6, ← hW5]; exact (((Chg.refl _ _).alloc _).alloc _).alloc _
      have hkb4 : a0 + 4 ≤ kb := by have := HP.out.1.b3.lt; omega
      refine wp_range (gf := 57) (lb := #[.pointer (some ⟨kb + 1, 0, none⟩), .pointer (some ⟨kb + 1 + 1, 0, none⟩)]) rfl (enters_of Tryd.func57 (by kernel_rfl) rfl) ?_
      intro r Wr D L hr hg1 hDl hLl hD hR
      have HR1 := Lib.hid hr
      have hL2 := hR.lt
      have hD2 := hD.lt
      have hz7 := hg1.size
      have HJ0 := Lib.hid (show PutR w Wr a0 p F y l (.slice (some ⟨rg, 0, none⟩) l.length cv) bs g off c n kb Wr.heap.size D L r 0 0 .ready none y F' from
        ⟨(HP.out.1.grew hg6).grew hg1, HP.out.2.1.wrote bs, hbk6.grew hg1, ⟨by rw [hlen]; exact hb16.grew hg1, hb26.grew hg1⟩, hD, hR, fun j h1 h2 e => by have := HP.out.1.gp.lt j e; omega, ⟨by omega, hD2, hL2, by omega, by omega, Ne.symm (hR.ne_dfr hD), Nat.le_refl _, hkb4, fun g' hg' => by simp [Value.ownBlock] at hg'; omega⟩⟩)
      clear hr hg1 hD hR hbk6 hb16 hb26 hg6 hW5 hkb hW6 hz5
      refine (chunk_iter (kb + 1) (kb + 1 + 1) L g off len c n K
        (fun q W => ∃ z F2, PutR w W a0 p F y l (.slice (some ⟨rg, 0, none⟩) l.length cv) bs g off c n kb Wr.heap.size D L r q q .ready none z F2)
        (fun q W => ∃ z, PutX w W a0 p F x z Wr.heap.size D L r .done (some .ret) ∧ x.like z ∧ ¬ x.enough (partsN bs.length (x.sz - 5))) Wr hn1 (by omega) (by omega) hc (fun q => by rw [← HX.out.2.2.2.2.2.2.2]; exact parts_lt hb1 hn1 q)
        (fun q W ⟨z, F2, hJ⟩ => by have := hJ.ci; rw [hlen] at this; exact this) (fun q W j ⟨z, F2, hJ⟩ => ⟨z, F2, hJ.grew ((Chg.refl _ _).drewN j)⟩) (fun q i mm W hJ hi hil hm => ?yld) ⟨y, F', HJ0.out⟩).mono ?post
      case yld =>
        obtain ⟨z, F2, hJ⟩ := hJ
        have hqK : q < K := by rw [← HX.out.2.2.2.2.2.2.2]; exact (parts_lt hb1 hn1 q).1 (hi ▸ hil)
        obtain ⟨ik, hik⟩ : ∃ ik, l[q]? = some ik := ⟨_, List.getElem?_eq_getElem (by rw [HP.out.2.2]; exact hqK)⟩
        obtain ⟨P, hP⟩ : ∃ P, part n bs q = P := ⟨_, rfl⟩
        have hPl : mm = P.length := by rw [← hP, part_len, hlen, ← hi]; exact hm
        subst hPl
        have hP5 : P.length + 5 ≤ x.sz := by have h1 := Nat.min_le_left n (len - i); have := HX.out.2.2.2.2.2.1; omega
        have HIk := Lib.hid hik
        have HJ := Lib.hid hJ
        have HI := Lib.hid (And.intro hi hil)
        have HPp := Lib.hid hP
        have hzsz : z.sz = x.sz := hJ.wr.like.sz.trans HP.out.2.1.like.sz
        have HZs := Lib.hid hzsz
        have HIz := Lib.hid (show z.now[ik]? = some .zero from by have := hJ.wr.is q ik hik; simpa using this)
        have hik4 : ik < 4096 := by
          have h1 := (List.getElem?_eq_some_iff.1 HIz.out).1
          have h2 := hJ.wr.like.len
          have h3 := HP.out.2.1.like.len
          omega
        have HPe := Lib.hid (show part (y.sz - 5) bs q = P from by rw [HP.out.2.1.like.sz, HX.out.2.2.2.2.2.1]; exact hP)
        have hPb : ∀ q ∈ P, 0 ≤ q ∧ q ≤ 255 := hP ▸ part_byte HX.out.2.1
        have hle := hm
        clear hJ hik hP hi hm hle hzsz
        obtain ⟨hr1, hr2, hr3', hr4⟩ := HR1.out
        refine yield_wide HJ.out.rc (by rw [hr2]; rfl) ?_
        rw [hr1, hr2, hr3', hr4]
        clear hr1 hr2 hr3' hr4
        intro K0 hK0
        have HKK := Lib.hid hK0
        clear hK0
        gi_wp2
        refine HKK.out _ _ HJ.out.rc fun W5 Q hk3 hR2 hQ => ?_
        refine Code.wpIn_mono hQ ?_
        have HJ5 := Lib.hid (HJ.out.kept hk3 hR2)
        clear hk3 hR2 hQ Q
        have HSz := Lib.hid (fun u (hg : Grew W5 u) => by
          have := gp_size p F2 z u (HJ5.out.pw.gp.grew hg)
          rw [HZs.out] at this
          exact this)
        have HPa := Lib.hid (show Sl W5 1 (some ⟨g, off + i, none⟩) P.length (bv P) ∧ P.length + 5 ≤ x.sz ∧ ∀ q ∈ P, 0 ≤ q ∧ q ≤ 255 from ⟨by
          have hsl : Sl W5 1 (some ⟨g, off, none⟩) bs.length (bv bs) := HX.out.2.2.1.chg HJ5.out.pw.rch.chg (fun a ha => by injection ha with ha; rw [← ha]; exact HX.out.2.2.2.1)
          have hpl : P.length = min n (bs.length - i) := by rw [← HPp.out, part_len, HI.out.1]
          have hpd : P = (bs.drop i).take P.length := by
            rw [hpl]
            have h9 : part n bs q = (bs.drop i).take n := by unfold part; rw [← HI.out.1]
            rw [← HPp.out, h9]
            exact List.take_eq_take_iff.2 (by rw [List.length_drop]; omega)
          exact hsl.sub (i := i) (m := P.length) (by have := HI.out.2; omega) P hpd, hP5, hPb⟩)
        obtain ⟨c0, f0, s0⟩ := HJ5.out.pw.b3.facts
        obtain ⟨c1, f1, s1⟩ := HJ5.out.bk.facts
        have uq : q < l.length := by rw [HP.out.2.2]; exact hqK
        clear hP5 hPb
        by_cases hlast : q + 1 < l.length
        · obtain ⟨i2, hi2⟩ : ∃ i2, l[q + 1]? = some i2 := ⟨_, List.getElem?_eq_getElem hlast⟩
          have t5 : decide ((q : Int) < (l.length : Int) - 1) = true := decide_eq_true (by omega)
          have u3 : (q : Int) + 1 < (l.length : Int) := by omega
          obtain ⟨nx, hnx⟩ : ∃ nx : Nat, (i2 : Int) + 1 = (nx : Int) := ⟨i2 + 1, by simp⟩
          have hce : W5.cell? ⟨rg, q + 1, none⟩ = some (.int .i64 i2) := by
            have := HJ5.out.pw.row.cells (g := rg) rfl (q + 1) (.int .i64 i2) (by simp [nv, hi2])
            rwa [Addr.add_lit, Nat.zero_add] at this
          have HNe := Lib.hid (show nextOf l q = nx from by unfold nextOf; rw [hi2]; show i2 + 1 = nx; omega)
          have hi24 : i2 < 4096 := by
            have h0 := HJ5.out.wr.is (q + 1) i2 hi2
            have h1 := (List.getElem?_eq_some_iff.1 h0).1
            have h2 := HJ5.out.wr.like.len
            have h3 := HP.out.2.1.like.len
            omega
          have HNx := Lib.hid (show nx ≤ 65535 by omega)
          have hnx5 : nx ≤ 5000 := by omega
          clear hi2 hi24 hlast
          gi_wp2
          clear c0 f0 s0 c1 f1 s1 t5 u3 hce hnx
          obtain ⟨s1, s2, s3, s4⟩ := HJ5.out.cells rfl HIk.out
          have hS5 : (W5.drew).cell? ⟨a0, 0, none⟩ = some (.pointer (some ⟨p, 0, none⟩)) ∧ (W5.drew).cell? ⟨a0 + 1 + 1 + 1, 0, none⟩ = some (.slice (some ⟨rg, 0, none⟩) l.length cv) ∧ (W5.drew).cell? ⟨kb, 0, none⟩ = some (.int .i64 q) ∧ (W5.drew).cell? ⟨rg, q, none⟩ = some (.int .i64 ik) := ⟨s1, s2, s3, s4⟩
          clear s1 s2 s3 s4
          refine wpIn_region_held_round (S := fun w' => w'.cell? ⟨a0, 0, none⟩ = some (.pointer (some ⟨p, 0, none⟩)) ∧ w'.cell? ⟨a0 + 1 + 1 + 1, 0, none⟩ = some (.slice (some ⟨rg, 0, none⟩) l.length cv) ∧ w'.cell? ⟨kb, 0, none⟩ = some (.int .i64 q) ∧ w'.cell? ⟨rg, q, none⟩ = some (.int .i64 ik)) (fun _ _ h => h) (by kernel_rfl) (by kernel_rfl) hS5 (fun hHeld => ?_)
          refine wpAnyH_take (i := 0) (v := ?_) rfl (by kernel_rfl) (by kernel_rfl) (by kernel_rfl) (fun _ _ _ h => h) (Or.inl ⟨by rfl, ?_⟩) hHeld ?_
          rotate_left
          · (intro w hSw; (try dsimp only at hSw); go_simp) <;> with_reducible rfl
          (try simp only [Act.put, List.setIfInBounds_toArray, List.set_cons_zero, List.set_cons_succ, List.getElem_toArray, List.getElem_cons_zero, List.getElem_cons_succ])
          refine wpAnyH_take (i := 1) (v := ?_) rfl (by kernel_rfl) (by kernel_rfl) (by kernel_rfl) (fun _ _ _ h => h) (Or.inl ⟨by rfl, ?_⟩) hHeld ?_
          rotate_left
          · (intro w hSw; (try dsimp only at hSw); go_simp) <;> with_reducible rfl
          (try simp only [Act.put, List.setIfInBounds_toArray, List.set_cons_zero, List.set_cons_succ, List.getElem_toArray, List.getElem_cons_zero, List.getElem_cons_succ])
          refine wpAnyH_take (i := 2) (v := ?_) rfl (by kernel_rfl) (by kernel_rfl) (by kernel_rfl) (fun _ _ _ h => h) (Or.inl ⟨by rfl, ?_⟩) hHeld ?_
          rotate_left
          · (intro w hSw; (try dsimp only at hSw); go_simp) <;> with_reducible rfl
          (try simp only [Act.put, List.setIfInBounds_toArray, List.set_cons_zero, List.set_cons_succ, List.getElem_toArray, List.getElem_cons_zero, List.getElem_cons_succ])
          refine wpAnyH_take (i := 3) (v := ?_) rfl (by kernel_rfl) (by kernel_rfl) (by kernel_rfl) (fun _ _ _ h => h) (Or.inl ⟨by rfl, ?_⟩) hHeld ?_
          rotate_left
          · (intro w hSw; (try dsimp only at hSw); go_simp) <;> with_reducible rfl
          (try simp only [Act.put, List.setIfInBounds_toArray, List.set_cons_zero, List.set_cons_succ, List.getElem_toArray, List.getElem_cons_zero, List.getElem_cons_succ])
          refine wpAnyH_take (i := 4) (v := ?_) rfl (by kernel_rfl) (by kernel_rfl) (by kernel_rfl) (fun _ _ _ h => h) (Or.inl ⟨by rfl, ?_⟩) hHeld ?_
          rotate_left
          · (intro w hSw; (try dsimp only at hSw); go_simp) <;> with_reducible rfl
          (try simp only [Act.put, List.setIfInBounds_toArray, List.set_cons_zero, List.set_cons_succ, List.getElem_toArray, List.getElem_cons_zero, List.getElem_cons_succ])
          refine wpAnyH_take (i := 5) (v := ?_) rfl (by kernel_rfl) (by kernel_rfl) (by kernel_rfl) (fun _ _ _ h => h) (Or.inl ⟨by rfl, ?_⟩) hHeld ?_
          rotate_left
          · (intro w hSw; (try dsimp only at hSw); go_simp) <;> with_reducible rfl
          (try simp only [Act.put, List.setIfInBounds_toArray, List.set_cons_zero, List.set_cons_succ, List.getElem_toArray, List.getElem_cons_zero, List.getElem_cons_succ])
          refine wpAnyH_take (i := 6) (v := ?_) rfl (by kernel_rfl) (by kernel_rfl) (by kernel_rfl) (fun _ _ _ h => h) (Or.inl ⟨by rfl, ?_⟩) hHeld ?_
          rotate_left
          · (intro w hSw; (try dsimp only at hSw); go_simp) <;> with_reducible rfl
          (try simp only [Act.put, List.setIfInBounds_toArray, List.set_cons_zero, List.set_cons_succ, List.getElem_toArray, List.getElem_cons_zero, List.getElem_cons_succ])
          refine wpAnyH_take (i := 7) (v := ?_) rfl (by kernel_rfl) (by kernel_rfl) (by kernel_rfl) (fun _ _ _ h => h) (Or.inl ⟨by rfl, ?_⟩) hHeld ?_
          rotate_left
          · (intro w hSw; (try dsimp only at hSw); go_simp) <;> with_reducible rfl
          (try simp only [Act.put, List.setIfInBounds_toArray, List.set_cons_zero, List.set_cons_succ, List.getElem_toArray, List.getElem_cons_zero, List.getElem_cons_succ])
          refine wpAnyH_ready (rs := [8]) (by kernel_rfl) (by simp) ?_
          refine AllReadyH.cons rfl (fun K hK => ?_) AllReadyH.nil
          go_simp
          refine (HSz.out _ ((Chg.refl _ _).drew)).mono ?_
          rintro e w9 ⟨rfl, rfl⟩
          refine hK.out _ _ hHeld (fun _ => ?_)
          clear hK K
          (try simp only [Act.put, List.setIfInBounds_toArray, List.set_cons_zero, List.set_cons_succ, List.getElem_toArray, List.getElem_cons_zero, List.getElem_cons_succ])
          refine wpAnyH_ready (rs := [9]) (by kernel_rfl) (by simp) ?_
          refine AllReadyH.cons rfl (fun K hK => ?_) AllReadyH.nil
          go_simp
          refine (cpage_any P (nx) x.sz (some ⟨g, off + i, none⟩) P.length _ (HPa.out.1.grew ((Chg.refl _ _).drew)) (by simp) (by have := HPa.out.2.1; omega) hsz.2.2.2.1 (by have := HNx.out; omega)).mono ?_
          rintro e w9 ⟨A9, c9, rfl, ho9, hg9⟩
          have HG9 := Lib.hid (And.intro ho9 (show Grew W5 w9 from Grew.trans ((Chg.refl _ _).drew) hg9))
          clear ho9 hg9
          have HJ9 := Lib.hid (HJ5.out.grew HG9.out.2)
          have hS9 := HJ9.out.cells rfl HIk.out
          refine hK.out _ _ hS9 (fun _ => ?_)
          clear hK K
          (try simp only [Act.put, List.setIfInBounds_toArray, List.set_cons_zero, List.set_cons_succ, List.getElem_toArray, List.getElem_cons_zero, List.getElem_cons_succ])
          refine wpAnyH_ready (rs := [10]) (by kernel_rfl) (by simp) ?_
          refine AllReadyH.cons rfl (fun K hK => ?_) AllReadyH.nil
          go_simp
          have hA9 : A9 ≠ none := by obtain ⟨q9, e9, -⟩ := own_block HG9.out.1 (by omega); rw [e9]; simp
          have hgw := gp_write_any p F2 z w9 ik (pgL P (nx) x.sz) A9 c9 .zero HJ9.out.pw.gp (by rw [HJ5.out.wr.like.was, HP.out.2.1.like.was]; exact HX.out.1) HIz.out rfl (by rw [pgL_len (by have := HPa.out.2.1; omega), HZs.out]) (pgL_byte HPa.out.2.2) hA9
            (by rw [pgL_len (by have := HPa.out.2.1; omega)]; exact Sl.of_own (own_base HG9.out.1 (Nat.zero_le _))) (fun a ha e => by subst ha; have h8 := (HG9.out.1.lt a.block rfl).1; have h9 := HJ5.out.pw.gp.lt _ e; have h8' : W5.heap.size ≤ a.block := h8; omega)
          rw [pgL_len (by have := HPa.out.2.1; omega)] at hgw
          refine hgw.mono ?_
          clear hgw hA9
          rintro e w11 (⟨rfl, h11⟩ | ⟨hn11, -, rfl, hg11⟩)
          · obtain ⟨F3, hJ11⟩ := HJ9.out.step h11 (by have := HJ5.out.wr.more (by rw [HP.out.2.1.like.was]; exact HX.out.1) HP.out.2.1.nd HIk.out; rw [HPe.out, HNe.out, show y.sz = x.sz from HP.out.2.1.like.sz] at this; exact this)
            have HJ11 := Lib.hid hJ11
            have hS11 := hJ11.cells rfl HIk.out
            clear h11 hJ11
            refine hK.out _ _ hS11 (fun _ => ?_)
            clear hK K
            (try simp only [Act.put, List.setIfInBounds_toArray, List.set_cons_zero, List.set_cons_succ, List.getElem_toArray, List.getElem_cons_zero, List.getElem_cons_succ])
            refine wpAnyH_ready (rs := [11]) (by kernel_rfl) (by simp) ?_
            refine AllReadyH.cons rfl (fun K hK => ?_) AllReadyH.nil
            go_simp
            refine hK.out _ _ hS11 (fun _ => ?_)
            clear hK K
            (try simp only [Act.put, List.setIfInBounds_toArray, List.set_cons_zero, List.set_cons_succ, List.getElem_toArray, List.getElem_cons_zero, List.getElem_cons_succ])
            refine wpAnyH_done (by kernel_rfl) ?_ _
            clear hHeld hS9 hS5 hS11
            obtain ⟨c2, f2, s2⟩ := HJ11.out.bk.facts
            gi_wp2
            have hJ12 := HJ11.out.next (q + 1)
            exact ⟨hJ12.rc, fun w' hk' hR' => .inl ⟨rfl, z.put ik (.new (pgL P (nx) x.sz)), F3, hJ12.kept hk' hR'⟩⟩
          · have HJ11 := Lib.hid (HJ9.out.grew hg11)
            have hS11 := HJ11.out.cells rfl HIk.out
            have HN11 := Lib.hid hn11
            clear hg11 hn11
            refine hK.out _ _ hS11 (fun _ => ?_)
            clear hK K
            (try simp only [Act.put, List.setIfInBounds_toArray, List.set_cons_zero, List.set_cons_succ, List.getElem_toArray, List.getElem_cons_zero, List.getElem_cons_succ])
            refine wpAnyH_ready (rs := [11]) (by kernel_rfl) (by simp) ?_
            refine AllReadyH.cons rfl (fun K hK => ?_) AllReadyH.nil
            go_simp
            refine hK.out _ _ hS11 (fun _ => ?_)
            clear hK K
            (try simp only [Act.put, List.setIfInBounds_toArray, List.set_cons_zero, List.set_cons_succ, List.getElem_toArray, List.getElem_cons_zero, List.getElem_cons_succ])
            refine wpAnyH_done (by kernel_rfl) ?_ _
            clear hHeld hS9 hS5 hS11
            obtain ⟨c2, f2, s2⟩ := HJ11.out.pw.b1.facts
            obtain ⟨c3, f3, s3⟩ := HJ11.out.pw.b2.facts
            gi_wp2
            have hX12 := PutX.mk' HJ11.out (HP.out.2.1.like.trans HJ5.out.wr.like)
            refine ⟨hX12.rc, fun w' hk' hR' => .inr ⟨rfl, z, hX12.kept hk' hR', HP.out.2.1.like.trans HJ5.out.wr.like, fun he => ?_⟩⟩
            have h5 := HJ5.out.wr.slack
            have h6 := HP.out.2.1.slack
            have h7 := he.1
            have h8 := HN11.out
            rw [HX.out.2.2.2.2.2.1, HX.out.2.2.2.2.2.2.2] at h7
            omega
        · have t5 : decide ((q : Int) < (l.length : Int) - 1) = false := decide_eq_false (by omega)
          have HNe := Lib.hid (show nextOf l q = 0 from by unfold nextOf; rw [List.getElem?_eq_none (by omega)])
          have HNx := Lib.hid (show 0 ≤ 65535 by omega)
          clear hlast
          gi_wp2
          clear c0 f0 s0 c1 f1 s1 t5
          obtain ⟨s1, s2, s3, s4⟩ := HJ5.out.cells rfl HIk.out
          have hS5 : (W5.drew).cell? ⟨a0, 0, none⟩ = some (.pointer (some ⟨p, 0, none⟩)) ∧ (W5.drew).cell? ⟨a0 + 1 + 1 + 1, 0, none⟩ = some (.slice (some ⟨rg, 0, none⟩) l.length cv) ∧ (W5.drew).cell? ⟨kb, 0, none⟩ = some (.int .i64 q) ∧ (W5.drew).cell? ⟨rg, q, none⟩ = some (.int .i64 ik) := ⟨s1, s2, s3, s4⟩
          clear s1 s2 s3 s4
          refine wpIn_region_held_round (S := fun w' => w'.cell? ⟨a0, 0, none⟩ = some (.pointer (some ⟨p, 0, none⟩)) ∧ w'.cell? ⟨a0 + 1 + 1 + 1, 0, none⟩ = some (.slice (some ⟨rg, 0, none⟩) l.length cv) ∧ w'.cell? ⟨kb, 0, none⟩ = some (.int .i64 q) ∧ w'.cell? ⟨rg, q, none⟩ = some (.int .i64 ik)) (fun _ _ h => h) (by kernel_rfl) (by kernel_rfl) hS5 (fun hHeld => ?_)
          refine wpAnyH_take (i := 0) (v := ?_) rfl (by kernel_rfl) (by kernel_rfl) (by kernel_rfl) (fun _ _ _ h => h) (Or.inl ⟨by rfl, ?_⟩) hHeld ?_
          rotate_left
          · (intro w hSw; (try dsimp only at hSw); go_simp) <;> with_reducible rfl
          (try simp only [Act.put, List.setIfInBounds_toArray, List.set_cons_zero, List.set_cons_succ, List.getElem_toArray, List.getElem_cons_zero, List.getElem_cons_succ])
          refine wpAnyH_take (i := 1) (v := ?_) rfl (by kernel_rfl) (by kernel_rfl) (by kernel_rfl) (fun _ _ _ h => h) (Or.inl ⟨by rfl, ?_⟩) hHeld ?_
          rotate_left
          · (intro w hSw; (try dsimp only at hSw); go_simp) <;> with_reducible rfl
          (try simp only [Act.put, List.setIfInBounds_toArray, List.set_cons_zero, List.set_cons_succ, List.getElem_toArray, List.getElem_cons_zero, List.getElem_cons_succ])
          refine wpAnyH_take (i := 2) (v := ?_) rfl (by kernel_rfl) (by kernel_rfl) (by kernel_rfl) (fun _ _ _ h => h) (Or.inl ⟨by rfl, ?_⟩) hHeld ?_
          rotate_left
          · (intro w hSw; (try dsimp only at hSw); go_simp) <;> with_reducible rfl
          (try simp only [Act.put, List.setIfInBounds_toArray, List.set_cons_zero, List.set_cons_succ, List.getElem_toArray, List.getElem_cons_zero, List.getElem_cons_succ])
          refine wpAnyH_take (i := 3) (v := ?_) rfl (by kernel_rfl) (by kernel_rfl) (by kernel_rfl) (fun _ _ _ h => h) (Or.inl ⟨by rfl, ?_⟩) hHeld ?_
          rotate_left
          · (intro w hSw; (try dsimp only at hSw); go_simp) <;> with_reducible rfl
          (try simp only [Act.put, List.setIfInBounds_toArray, List.set_cons_zero, List.set_cons_succ, List.getElem_toArray, List.getElem_cons_zero, List.getElem_cons_succ])
          refine wpAnyH_take (i := 4) (v := ?_) rfl (by kernel_rfl) (by kernel_rfl) (by kernel_rfl) (fun _ _ _ h => h) (Or.inl ⟨by rfl, ?_⟩) hHeld ?_
          rotate_left
          · (intro w hSw; (try dsimp only at hSw); go_simp) <;> with_reducible rfl
          (try simp only [Act.put, List.setIfInBounds_toArray, List.set_cons_zero, List.set_cons_succ, List.getElem_toArray, List.getElem_cons_zero, List.getElem_cons_succ])
          refine wpAnyH_take (i := 5) (v := ?_) rfl (by kernel_rfl) (by kernel_rfl) (by kernel_rfl) (fun _ _ _ h => h) (Or.inl ⟨by rfl, ?_⟩) hHeld ?_
          rotate_left
          · (intro w hSw; (try dsimp only at hSw); go_simp) <;> with_reducible rfl
          (try simp only [Act.put, List.setIfInBounds_toArray, List.set_cons_zero, List.set_cons_succ, List.getElem_toArray, List.getElem_cons_zero, List.getElem_cons_succ])
          refine wpAnyH_take (i := 6) (v := ?_) rfl (by kernel_rfl) (by kernel_rfl) (by kernel_rfl) (fun _ _ _ h => h) (Or.inl ⟨by rfl, ?_⟩) hHeld ?_
          rotate_left
          · (intro w hSw; (try dsimp only at hSw); go_simp) <;> with_reducible rfl
          (try simp only [Act.put, List.setIfInBounds_toArray, List.set_cons_zero, List.set_cons_succ, List.getElem_toArray, List.getElem_cons_zero, List.getElem_cons_succ])
          refine wpAnyH_take (i := 7) (v := ?_) rfl (by kernel_rfl) (by kernel_rfl) (by kernel_rfl) (fun _ _ _ h => h) (Or.inl ⟨by rfl, ?_⟩) hHeld ?_
          rotate_left
          · (intro w hSw; (try dsimp only at hSw); go_simp) <;> with_reducible rfl
          (try simp only [Act.put, List.setIfInBounds_toArray, List.set_cons_zero, List.set_cons_succ, List.getElem_toArray, List.getElem_cons_zero, List.getElem_cons_succ])
          refine wpAnyH_ready (rs := [8]) (by kernel_rfl) (by simp) ?_
          refine AllReadyH.cons rfl (fun K hK => ?_) AllReadyH.nil
          go_simp
          refine (HSz.out _ ((Chg.refl _ _).drew)).mono ?_
          rintro e w9 ⟨rfl, rfl⟩
          refine hK.out _ _ hHeld (fun _ => ?_)
          clear hK K
          (try simp only [Act.put, List.setIfInBounds_toArray, List.set_cons_zero, List.set_cons_succ, List.getElem_toArray, List.getElem_cons_zero, List.getElem_cons_succ])
          refine wpAnyH_ready (rs := [9]) (by kernel_rfl) (by simp) ?_
          refine AllReadyH.cons rfl (fun K hK => ?_) AllReadyH.nil
          go_simp
          refine (cpage_any P (0) x.sz (some ⟨g, off + i, none⟩) P.length _ (HPa.out.1.grew ((Chg.refl _ _).drew)) (by simp) (by have := HPa.out.2.1; omega) hsz.2.2.2.1 (by have := HNx.out; omega)).mono ?_
          rintro e w9 ⟨A9, c9, rfl, ho9, hg9⟩
          have HG9 := Lib.hid (And.intro ho9 (show Grew W5 w9 from Grew.trans ((Chg.refl _ _).drew) hg9))
          clear ho9 hg9
          have HJ9 := Lib.hid (HJ5.out.grew HG9.out.2)
          have hS9 := HJ9.out.cells rfl HIk.out
          refine hK.out _ _ hS9 (fun _ => ?_)
          clear hK K
          (try simp only [Act.put, List.setIfInBounds_toArray, List.set_cons_zero, List.set_cons_succ, List.getElem_toArray, List.getElem_cons_zero, List.getElem_cons_succ])
          refine wpAnyH_ready (rs := [10]) (by kernel_rfl) (by simp) ?_
          refine AllReadyH.cons rfl (fun K hK => ?_) AllReadyH.nil
          go_simp
          have hA9 : A9 ≠ none := by obtain ⟨q9, e9, -⟩ := own_block HG9.out.1 (by omega); rw [e9]; simp
          have hgw := gp_write_any p F2 z w9 ik (pgL P (0) x.sz) A9 c9 .zero HJ9.out.pw.gp (by rw [HJ5.out.wr.like.was, HP.out.2.1.like.was]; exact HX.out.1) HIz.out rfl (by rw [pgL_len (by have := HPa.out.2.1; omega), HZs.out]) (pgL_byte HPa.out.2.2) hA9
            (by rw [pgL_len (by have := HPa.out.2.1; omega)]; exact Sl.of_own (own_base HG9.out.1 (Nat.zero_le _))) (fun a ha e => by subst ha; have h8 := (HG9.out.1.lt a.block rfl).1; have h9 := HJ5.out.pw.gp.lt _ e; have h8' : W5.heap.size ≤ a.block := h8; omega)
          rw [pgL_len (by have := HPa.out.2.1; omega)] at hgw
          refine hgw.mono ?_
          clear hgw hA9
          rintro e w11 (⟨rfl, h11⟩ | ⟨hn11, -, rfl, hg11⟩)
          · obtain ⟨F3, hJ11⟩ := HJ9.out.step h11 (by have := HJ5.out.wr.more (by rw [HP.out.2.1.like.was]; exact HX.out.1) HP.out.2.1.nd HIk.out; rw [HPe.out, HNe.out, show y.sz = x.sz from HP.out.2.1.like.sz] at this; exact this)
            have HJ11 := Lib.hid hJ11
            have hS11 := hJ11.cells rfl HIk.out
            clear h11 hJ11
            refine hK.out _ _ hS11 (fun _ => ?_)
            clear hK K
            (try simp only [Act.put, List.setIfInBounds_toArray, List.set_cons_zero, List.set_cons_succ, List.getElem_toArray, List.getElem_cons_zero, List.getElem_cons_succ])
            refine wpAnyH_ready (rs := [11]) (by kernel_rfl) (by simp) ?_
            refine AllReadyH.cons rfl (fun K hK => ?_) AllReadyH.nil
            go_simp
            refine hK.out _ _ hS11 (fun _ => ?_)
            clear hK K
            (try simp only [Act.put, List.setIfInBounds_toArray, List.set_cons_zero, List.set_cons_succ, List.getElem_toArray, List.getElem_cons_zero, List.getElem_cons_succ])
            refine wpAnyH_done (by kernel_rfl) ?_ _
            clear hHeld hS9 hS5 hS11
            obtain ⟨c2, f2, s2⟩ := HJ11.out.bk.facts
            gi_wp2
            have hJ12 := HJ11.out.next (q + 1)
            exact ⟨hJ12.rc, fun w' hk' hR' => .inl ⟨rfl, z.put ik (.new (pgL P (0) x.sz)), F3, hJ12.kept hk' hR'⟩⟩
          · have HJ11 := Lib.hid (HJ9.out.grew hg11)
            have hS11 := HJ11.out.cells rfl HIk.out
            have HN11 := Lib.hid hn11
            clear hg11 hn11
            refine hK.out _ _ hS11 (fun _ => ?_)
            clear hK K
            (try simp only [Act.put, List.setIfInBounds_toArray, List.set_cons_zero, List.set_cons_succ, List.getElem_toArray, List.getElem_cons_zero, List.getElem_cons_succ])
            refine wpAnyH_ready (rs := [11]) (by kernel_rfl) (by simp) ?_
            refine AllReadyH.cons rfl (fun K hK => ?_) AllReadyH.nil
            go_simp
            refine hK.out _ _ hS11 (fun _ => ?_)
            clear hK K
            (try simp only [Act.put, List.setIfInBounds_toArray, List.set_cons_zero, List.set_cons_succ, List.getElem_toArray, List.getElem_cons_zero, List.getElem_cons_succ])
            refine wpAnyH_done (by kernel_rfl) ?_ _
            clear hHeld hS9 hS5 hS11
            obtain ⟨c2, f2, s2⟩ := HJ11.out.pw.b1.facts
            obtain ⟨c3, f3, s3⟩ := HJ11.out.pw.b2.facts
            gi_wp2
            have hX12 := PutX.mk' HJ11.out (HP.out.2.1.like.trans HJ5.out.wr.like)
            refine ⟨hX12.rc, fun w' hk' hR' => .inr ⟨rfl, z, hX12.kept hk' hR', HP.out.2.1.like.trans HJ5.out.wr.like, fun he => ?_⟩⟩
            have h5 := HJ5.out.wr.slack
            have h6 := HP.out.2.1.slack
            have h7 := he.1
            have h8 := HN11.out
            rw [HX.out.2.2.2.2.2.1, HX.out.2.2.2.2.2.2.2] at h7
            omega
      case post =>
        rintro e w3 ⟨hv, hJ | ⟨i, hJ⟩⟩
        · obtain ⟨z, F2, hJ⟩ := hJ
          refine ⟨hv, .inl ⟨hJ.rc, fun w4 hk4 => ?_⟩⟩
          have HO := Lib.hid (hJ.offL hk4)
          have HWr := Lib.hid (And.intro hJ.wr (And.intro hJ.lt hJ.nf))
          clear hJ hk4
          obtain ⟨i0, hi0⟩ : ∃ i0, l[0]? = some i0 := ⟨_, List.getElem?_eq_getElem (by omega)⟩
          have hce : w4.cell? ⟨rg, 0, none⟩ = some (.int .i64 i0) := by
            have := HO.out.1.row.cells (g := rg) rfl 0 (.int .i64 i0) (by simp [nv, hi0])
            rwa [Addr.add_lit] at this
          obtain ⟨c0, f0, s0⟩ := HO.out.1.b3.facts
          obtain ⟨c1, f1, s1⟩ := HO.out.1.b1.facts
          obtain ⟨c2, f2, s2⟩ := HO.out.1.b2.facts
          have u3 : (0 : Int) < (l.length : Int) := by omega
          have HI0 := Lib.hid hi0
          clear hi0
          go_wp2_with fail
          clear c0 f0 s0 c1 f1 s1 c2 f2 s2 hce
          obtain ⟨l1, l2, l3, l4, l5, l6, l7, l8, l9⟩ := HWr.out.2.1
          refine postM_ret1 (v := .tuple #[.int .i64 i0, .int .i64 0]) (D := D) ?_ rfl fun w5 hk5 => ⟨?_, ?_⟩
          · exact HO.out.2.chg (((Chg.refl (fun j => j = a0 + 1 ∨ j = a0 + 2) w4).setCell (p := ⟨a0 + 1, 0, none⟩) (fun _ => .inl rfl) _).setCell (p := ⟨a0 + 2, 0, none⟩) (fun _ => .inr rfl) _) (by omega)
          · have hb1 := (HO.out.1.b1.put 0 (.int .i64 i0)).far (p := ⟨a0 + 2, 0, none⟩) (by simp) (.int .i64 0)
            have hb2 := (HO.out.1.b2.far (p := ⟨a0 + 1, 0, none⟩) (by simp) (.int .i64 i0)).put 0 (.int .i64 0)
            obtain ⟨c1, f1, s1⟩ := (hb1.kept hk5).facts
            obtain ⟨c2, f2, s2⟩ := (hb2.kept hk5).facts
            simp [results, Tryd.results16, go_sem, c1, s1, c2, s2]
          · refine .inl ⟨i0, l, z, rfl, HI0.out, HO.out.1.fin2 _ _ (by omega) (HWr.out.2.2 D (by omega) (by omega)) hk5, ?_⟩
            refine HWr.out.1.done' HP.out.2.1 HP.out.2.2 ?_
            rw [HP.out.2.2, HX.out.2.2.2.2.2.1, HX.out.2.2.2.2.2.2.1, HX.out.2.2.2.2.2.2.2]
        · obtain ⟨z, hX, hlk, hne⟩ := hJ
          refine ⟨hv, .inr ⟨_, hX.rc, fun w4 hk4 => wp_ret ?_⟩⟩
          obtain ⟨hd, hb1, hb2, hto⟩ := hX.offL hk4
          simp only [Exit.inBlock, Exit.then]
          refine postM_ret1 (v := .tuple #[.int .i64 0, .int .i64 21]) (D := D) hd rfl fun w5 hk5 => ⟨?_, ?_⟩
          · obtain ⟨c1, f1, s1⟩ := (hb1.kept hk5).facts
            obtain ⟨c2, f2, s2⟩ := (hb2.kept hk5).facts
            simp [results, Tryd.results16, go_sem, c1, s1, c2, s2]
          · exact .inr ⟨z, rfl, hto _ hk5, hlk, hne⟩

end Go.Proofs.YtjlfnebkibgfmaaDoor

/- The chain: a page read: part. -/
namespace Go.Proofs.YtjlfnebkibgfmaaDoor
open Go.RowKit Go.Maps

/-- What a chain's page says: its bytes, and the next one's number and one more. -/
def decP (b : List Int) (sz : Nat) : Option (List Int × Nat) :=
  let next := (b.getD 1 0).toNat + 256 * (b.getD 2 0).toNat
  let n := (b.getD 3 0).toNat + 256 * (b.getD 4 0).toNat
  if n < 1 ∨ sz - 5 < n ∨ (0 < next ∧ n < sz - 5) ∨ pgL ((b.drop 5).take n) next sz ≠ b then none else some ((b.drop 5).take n, next)
theorem decP_pgL {P : List Int} {nx sz : Nat} (h1 : 1 ≤ P.length) (h2 : P.length + 5 ≤ sz) (h3 : 0 < nx → P.length + 5 = sz) (h4 : nx ≤ 65535) (h5 : sz ≤ 4096) : decP (pgL P nx sz) sz = some (P, nx) := by
  have g1 : ((pgL P nx sz).getD 1 0).toNat + 256 * ((pgL P nx sz).getD 2 0).toNat = nx := by
    simp only [pgL, List.cons_append, List.nil_append, List.getD_cons_succ, List.getD_cons_zero]
    omega
  have g2 : ((pgL P nx sz).getD 3 0).toNat + 256 * ((pgL P nx sz).getD 4 0).toNat = P.length := by
    simp only [pgL, List.cons_append, List.nil_append, List.getD_cons_succ, List.getD_cons_zero]
    omega
  have g3 : ((pgL P nx sz).drop 5).take P.length = P := by
    unfold pgL
    simp only [List.cons_append, List.nil_append, List.drop_succ_cons, List.drop_zero]
    exact List.take_left
  unfold decP
  simp only [g1, g2, g3]
  rw [if_neg]
  rintro (e | e | e | e)
  · omega
  · omega
  · have := h3 e.1; omega
  · exact e rfl

/-- What part answers. -/
def PartO (w w' : World) (p : Nat) (F : Nat → Prop) (x : Rp) (o : Option (List Int × Nat)) (e : Ending) : Prop :=
  GP w' p F x ∧ Chg F w w' ∧ match o with
  | none => e = .returned (.tuple #[.slice none 0 0, .int .i64 0, .int .i64 22])
  | some (P, nx) => ∃ g c, e = .returned (.tuple #[.slice (some ⟨g, 5, none⟩) P.length c, .int .i64 ((nx : Int) - 1), .int .i64 0]) ∧ P.length ≤ c ∧ Sl w' 1 (some ⟨g, 5, none⟩) P.length (bv P) ∧ w.heap.size ≤ g ∧ ¬ F g

theorem cpart_none (p : Nat) (i : Int) (F : Nat → Prop) (x : Rp) (w : World) (h : GP w p F x) (hu : i < 0 ∨ x.now.length ≤ i ∨ x.now[i.toNat]? = some .no) :
    Calls Tryd.prog 68 #[.pointer (some ⟨p, 0, none⟩), .int .i64 i] w fun e w' => e = .returned (.tuple #[.slice none 0 0, .int .i64 0, .int .i64 14]) ∧ w = w' := by
  have H := Lib.hid (gp_read_none p F x w i h hu)
  clear h hu
  go_enter Tryd.func68, Tryd.ntmps68
  go_wp2_with (go_at_call 37; (refine H.out.mono ?_); rintro e w1 ⟨rfl, rfl⟩)
  exact bodyPost_ret (v := .tuple #[.slice none 0 0, .int .i64 0, .int .i64 14]) (by simp [results, Tryd.results68, go_sem]) rfl ⟨rfl, rfl⟩

set_option maxRecDepth 100000 in
set_option maxHeartbeats 3200000 in
theorem cpart_any (p i : Nat) (F : Nat → Prop) (x : Rp) (c : Pk) (w : World) (h : GP w p F x) (hi : x.now[i]? = some c) (hu : c.used = true) :
    Calls Tryd.prog 68 #[.pointer (some ⟨p, 0, none⟩), .int .i64 i] w fun e w' => PartO w w' p F x (decP (c.bytes x.sz) x.sz) e := by
  have hsz := h.szs
  have hrd := gp_read p i F x w c h hi hu
  obtain ⟨B, hB⟩ : ∃ B, c.bytes x.sz = B := ⟨_, rfl⟩
  obtain ⟨sz, hz⟩ : ∃ sz, x.sz = sz := ⟨_, rfl⟩
  rw [hB] at hrd ⊢
  rw [hz] at hsz ⊢
  obtain ⟨o, hO⟩ : ∃ o, decP B sz = o := ⟨_, rfl⟩
  rw [hO]
  have HOO := Lib.hid hO
  have HR := Lib.hid (And.intro hrd hz)
  clear h hi hu hrd hB hz hO
  go_enter Tryd.func68, Tryd.ntmps68
  go_wp2_with fail
  refine HR.out.1.mono ?_
  rintro e w1 ⟨A, cb, rfl, ho, hbl, hby, hgp, hc, hn⟩
  rw [HR.out.2] at ho hbl ⊢
  obtain ⟨g, rfl, hg⟩ := own_block ho (by omega)
  obtain ⟨A', c', e', hcc⟩ := own_shape ho
  obtain rfl : cb = c' := by injection e' with e1 e2 e3
  obtain ⟨y1, e1⟩ : ∃ y, B[1]? = some y := ⟨_, List.getElem?_eq_getElem (by omega)⟩
  obtain ⟨y2, e2⟩ : ∃ y, B[2]? = some y := ⟨_, List.getElem?_eq_getElem (by omega)⟩
  obtain ⟨y3, e3⟩ : ∃ y, B[3]? = some y := ⟨_, List.getElem?_eq_getElem (by omega)⟩
  obtain ⟨y4, e4⟩ : ∃ y, B[4]? = some y := ⟨_, List.getElem?_eq_getElem (by omega)⟩
  have b1 := hby _ (List.mem_of_getElem? e1)
  have b2 := hby _ (List.mem_of_getElem? e2)
  have b3 := hby _ (List.mem_of_getElem? e3)
  have b4 := hby _ (List.mem_of_getElem? e4)
  have hx : ∀ j u, (bv B)[j]? = some u → w1.cell? ⟨g, j, none⟩ = some u := fun j u hu => by
    have := ho.cells (g := g) rfl j u hu
    rwa [Addr.add_lit, Nat.zero_add] at this
  have d1 := hx 1 (.int .u8 y1) (by simp [bv, e1])
  have d2 := hx 2 (.int .u8 y2) (by simp [bv, e2])
  have d3 := hx 3 (.int .u8 y3) (by simp [bv, e3])
  have d4 := hx 4 (.int .u8 y4) (by simp [bv, e4])
  obtain ⟨x1, rfl⟩ := Int.eq_ofNat_of_zero_le b1.1
  obtain ⟨x2, rfl⟩ := Int.eq_ofNat_of_zero_le b2.1
  obtain ⟨x3, rfl⟩ := Int.eq_ofNat_of_zero_le b3.1
  obtain ⟨x4, rfl⟩ := Int.eq_ofNat_of_zero_le b4.1
  have hor1 := or_le2 x1 x2 (by omega) (by omega)
  have hor2 := or_le2 x3 x4 (by omega) (by omega)
  obtain ⟨nx, hnx⟩ : ∃ nx, x1 + 256 * x2 = nx := ⟨_, rfl⟩
  obtain ⟨n, hnn⟩ : ∃ n, x3 + 256 * x4 = n := ⟨_, rfl⟩
  have hdec : decP B sz = if n < 1 ∨ sz - 5 < n ∨ (0 < nx ∧ n < sz - 5) ∨ pgL ((B.drop 5).take n) nx sz ≠ B then none else some ((B.drop 5).take n, nx) := by
    unfold decP
    simp only [List.getD_eq_getElem?_getD, e1, e2, e3, e4, Option.getD_some, Int.toNat_natCast, hnx, hnn]
  rw [hnx] at hor1
  rw [hnn] at hor2
  have hnx5 : nx ≤ 65535 := by omega
  have hn5 : n ≤ 65535 := by omega
  have q1 : x1 ≤ 255 := by omega
  have q2 : x2 ≤ 255 := by omega
  have q3 : x3 ≤ 255 := by omega
  have q4 : x4 ≤ 255 := by omega
  have HO := Lib.hid (And.intro ho (And.intro hgp (And.intro hc (And.intro hn hby))))
  have k1 : (1 : Int) < (sz : Int) := by omega
  have k2 : (2 : Int) < (sz : Int) := by omega
  have k3 : (3 : Int) < (sz : Int) := by omega
  have k4 : (4 : Int) < (sz : Int) := by omega
  have m1 : 1 < sz := by omega
  have m2 : 2 < sz := by omega
  have m3 : 3 < sz := by omega
  have m4 : 4 < sz := by omega
  have HB := Lib.hid (And.intro hbl hdec)
  clear ho hgp hc hn hby hx e1 e2 e3 e4 b1 b2 b3 b4 hnx hnn hbl hdec e'
  go_wp2
  go_quiet (fail)
  have HGW := Lib.hid (show Grew w1 (w1.drewN nq) from (Chg.refl _ _).drewN _)
  obtain ⟨w2, hw2⟩ : ∃ w2, w1.drewN nq = w2 := ⟨_, rfl⟩
  rw [hw2] at HGW ⊢
  clear hw2 d1 d2 d3 d4 k1 k2 k3 k4 m1 m2 m3 m4 q1 q2 q3 q4 hor1 hor2
  have hfin : ∀ w3, Grew w2 w3 → GP w3 p F x ∧ Chg F w w3 := fun w3 h3 => ⟨(HO.out.2.1.grew HGW.out).grew h3, (HO.out.2.2.1.grew HGW.out).grew h3⟩
  have HF := Lib.hid hfin
  clear hfin
  by_cases h1 : n < 1
  · obtain rfl : o = none := by rw [← HOO.out, HB.out.2, if_pos (.inl h1)]
    have t1 : decide ((n : Int) < 1) = true := decide_eq_true (by omega)
    clear h1
    go_wp2
    exact bodyPost_ret (v := .tuple #[.slice none 0 0, .int .i64 0, .int .i64 22]) (by simp [results, Tryd.results68, go_sem]) rfl ⟨(HF.out _ (Chg.refl _ _)).1, (HF.out _ (Chg.refl _ _)).2, rfl⟩
  have t1 : decide ((n : Int) < 1) = false := decide_eq_false (by omega)
  by_cases h2 : sz - 5 < n
  · obtain rfl : o = none := by rw [← HOO.out, HB.out.2, if_pos (.inr (.inl h2))]
    have t2 : decide ((sz : Int) - 5 < (n : Int)) = true := decide_eq_true (by omega)
    clear h1 h2
    go_wp2
    exact bodyPost_ret (v := .tuple #[.slice none 0 0, .int .i64 0, .int .i64 22]) (by simp [results, Tryd.results68, go_sem]) rfl ⟨(HF.out _ (Chg.refl _ _)).1, (HF.out _ (Chg.refl _ _)).2, rfl⟩
  have t2 : decide ((sz : Int) - 5 < (n : Int)) = false := decide_eq_false (by omega)
  by_cases h3 : 0 < nx ∧ n < sz - 5
  · obtain rfl : o = none := by rw [← HOO.out, HB.out.2, if_pos (.inr (.inr (.inl h3)))]
    have p3 : 0 < nx := h3.1
    have t3 : decide ((0 : Int) < (nx : Int)) = true := decide_eq_true (by omega)
    have t4 : decide ((n : Int) < (sz : Int) - 5) = true := decide_eq_true (by omega)
    clear h1 h2 h3
    go_wp2
    exact bodyPost_ret (v := .tuple #[.slice none 0 0, .int .i64 0, .int .i64 22]) (by simp [results, Tryd.results68, go_sem]) rfl ⟨(HF.out _ (Chg.refl _ _)).1, (HF.out _ (Chg.refl _ _)).2, rfl⟩
  obtain ⟨P, hP⟩ : ∃ P, (B.drop 5).take n = P := ⟨_, rfl⟩
  have hPl : P.length = n := by rw [← hP, List.length_take, List.length_drop, HB.out.1]; omega
  have hsP : ∀ w3, Grew w2 w3 → Sl w3 1 (some ⟨g, 5, none⟩) P.length (bv P) := fun w3 h4 => by
    have hsl : Sl w1 1 (some ⟨g, 0, none⟩) B.length (bv B) := by rw [HB.out.1]; exact Sl.of_own HO.out.1
    have := (hsl.grew (Grew.trans HGW.out h4)).sub (i := 5) (m := P.length) (by rw [HB.out.1, hPl]; omega) P (by rw [hPl]; exact hP.symm)
    rwa [Nat.zero_add] at this
  have hPb : ∀ q ∈ P, 0 ≤ q ∧ q ≤ 255 := fun q hq => HO.out.2.2.2.2 q (List.mem_of_mem_drop (List.mem_of_mem_take (hP ▸ hq)))
  have hT : ((5 : Int) + (n : Int)).toNat - 5 = n := by omega
  have hnc : (5 : Int) + (n : Int) ≤ (cb : Int) := by omega
  have HP := Lib.hid (And.intro hP (And.intro hPl (And.intro hsP hPb)))
  have hpg := fun w3 (h4 : Grew w2 w3) => cpage_any P nx sz (some ⟨g, 5, none⟩) (cb - 5) w3 (hsP w3 h4) (by simp) (by omega) hsz.2.2.2.1 hnx5
  rw [hPl] at hpg
  have HPG := Lib.hid hpg
  have hle : P.length + 5 ≤ sz := by omega
  have hnsz : n ≤ 4096 := by omega
  have hn1 : 1 ≤ n := by omega
  have hcase : nx = 0 ∨ (0 < nx ∧ decide ((0 : Int) < (nx : Int)) = true ∧ decide ((n : Int) < (sz : Int) - 5) = false) := by
    by_cases e : 0 < nx
    · exact .inr ⟨e, decide_eq_true (by omega), decide_eq_false (by have : ¬ n < sz - 5 := fun q => h3 ⟨e, q⟩; omega)⟩
    · exact .inl (by omega)
  have hdd : decP B sz = if eqB (pgL P nx sz) B then some (P, nx) else none := by
    rw [HB.out.2, hP]
    rw [eqB_eq (pgL_byte hPb) HO.out.2.2.2.2]
    by_cases e : pgL P nx sz = B
    · rw [if_neg (fun q => q.elim h1 fun q => q.elim h2 fun q => q.elim h3 fun q => q e), decide_eq_true e]; rfl
    · rw [if_pos (.inr (.inr (.inr e))), decide_eq_false e]; rfl
  have HD := Lib.hid hdd
  have heq : ∀ A c w', Sl w' 1 A sz (bv (pgL P nx sz)) → Grew w2 w' → Calls Tryd.prog 79 #[.slice A sz c, .slice (some ⟨g, 0, none⟩) sz cb] w' fun e w'' => e = .returned (.bool (eqB (pgL P nx sz) B)) ∧ w' = w'' := fun A c w' hA hg' => by
    have hb0 : Sl w1 1 (some ⟨g, 0, none⟩) B.length (bv B) := by rw [HB.out.1]; exact Sl.of_own HO.out.1
    have := beq_any A (some ⟨g, 0, none⟩) (pgL P nx sz) B c cb w' (by rw [pgL_len hle]; exact hA) (hb0.grew (Grew.trans HGW.out hg'))
    rwa [pgL_len hle, HB.out.1] at this
  have HE := Lib.hid heq
  clear h1 h2 h3 hP hPl hsP hPb hpg hdd heq
  obtain ⟨bq, hbq⟩ : ∃ bq, eqB (pgL P nx sz) B = bq := ⟨_, rfl⟩
  rw [hbq] at HE HD
  clear hbq
  cases bq with
  | false =>
    obtain rfl : o = none := by rw [← HOO.out, HD.out]; rfl
    rcases hcase with rfl | ⟨p3, t3, t4⟩
    all_goals
      go_wp2_with (first
        | (go_at_call 36; (refine (HPG.out _ (Chg.refl _ _)).mono ?_); rintro e w3 ⟨A3, c3, rfl, ho3, hg3⟩; have H3 := Lib.hid (And.intro ho3 hg3); clear ho3 hg3)
        | (go_at_call 79; (refine (HE.out _ _ _ (Sl.of_own (own_base H3.out.1 (Nat.zero_le _))) H3.out.2).mono ?_); rintro e w4 ⟨rfl, rfl⟩))
      exact bodyPost_ret (v := .tuple #[.slice none 0 0, .int .i64 0, .int .i64 22]) (by simp [results, Tryd.results68, go_sem]) rfl ⟨(HF.out _ H3.out.2).1, (HF.out _ H3.out.2).2, rfl⟩
  | true =>
    obtain rfl : o = some (P, nx) := by rw [← HOO.out, HD.out]; rfl
    rcases hcase with rfl | ⟨p3, t3, t4⟩
    · go_wp2_with (first
        | (go_at_call 36; (refine (HPG.out _ (Chg.refl _ _)).mono ?_); rintro e w3 ⟨A3, c3, rfl, ho3, hg3⟩; have H3 := Lib.hid (And.intro ho3 hg3); clear ho3 hg3)
        | (go_at_call 79; (refine (HE.out _ _ _ (Sl.of_own (own_base H3.out.1 (Nat.zero_le _))) H3.out.2).mono ?_); rintro e w4 ⟨rfl, rfl⟩))
      refine bodyPost_ret (v := .tuple #[.slice (some ⟨g, 5, none⟩) n (cb - 5), .int .i64 (((0 : Nat) : Int) - 1), .int .i64 0]) (by simp [results, Tryd.results68, go_sem]) rfl ⟨(HF.out _ H3.out.2).1, (HF.out _ H3.out.2).2, ?_⟩
      exact ⟨g, cb - 5, by rw [HP.out.2.1], by rw [HP.out.2.1]; omega, HP.out.2.2.1 _ H3.out.2, by have h8 := (HO.out.1.lt g rfl).1; exact h8, fun e => HO.out.2.2.2.1 _ rfl e⟩
    · go_wp2_with (first
        | (go_at_call 36; (refine (HPG.out _ (Chg.refl _ _)).mono ?_); rintro e w3 ⟨A3, c3, rfl, ho3, hg3⟩; have H3 := Lib.hid (And.intro ho3 hg3); clear ho3 hg3)
        | (go_at_call 79; (refine (HE.out _ _ _ (Sl.of_own (own_base H3.out.1 (Nat.zero_le _))) H3.out.2).mono ?_); rintro e w4 ⟨rfl, rfl⟩))
      refine bodyPost_ret (v := .tuple #[.slice (some ⟨g, 5, none⟩) n (cb - 5), .int .i64 ((nx : Int) - 1), .int .i64 0]) (by simp [results, Tryd.results68, go_sem]) rfl ⟨(HF.out _ H3.out.2).1, (HF.out _ H3.out.2).2, ?_⟩
      exact ⟨g, cb - 5, by rw [HP.out.2.1], by rw [HP.out.2.1]; omega, HP.out.2.2.1 _ H3.out.2, by have h8 := (HO.out.1.lt g rfl).1; exact h8, fun e => HO.out.2.2.2.1 _ rfl e⟩

end Go.Proofs.YtjlfnebkibgfmaaDoor

/- The chain: walk. -/
namespace Go.Proofs.YtjlfnebkibgfmaaDoor
open Go.RowKit Go.Maps

def lenSum (ps : List (List Int)) : Nat := (ps.map List.length).sum
/-- These pages were gone through, with these parts; the next one is i. -/
inductive Wk (x : Rp) (first : Int) : List Nat → List (List Int) → Int → Prop where
  | nil : Wk x first [] [] first
  | snoc {l ps} {i : Nat} {c : Pk} {P : List Int} {nx : Nat} : Wk x first l ps i → x.now[i]? = some c → c.used = true → decP (c.bytes x.sz) x.sz = some (P, nx) → i ∉ l → lenSum ps + P.length ≤ 16384 → Wk x first (l ++ [i]) (ps ++ [P]) ((nx : Int) - 1)
/-- What is wrong with the next one. -/
def Wrong (x : Rp) (l : List Nat) (ps : List (List Int)) (i : Nat) : Prop :=
  (∀ c, x.now[i]? = some c → c.used = false) ∨ ∃ c, x.now[i]? = some c ∧ c.used = true ∧ (decP (c.bytes x.sz) x.sz = none ∨ ∃ P nx, decP (c.bytes x.sz) x.sz = some (P, nx) ∧ (i ∈ l ∨ 16384 < lenSum ps + P.length))
/-- What walk answers. -/
def WkEnd (x : Rp) (first : Int) (J Jx : List Nat → List (List Int) → World → Prop) (e : Ending) (w : World) : Prop :=
  ∃ l ps, (∃ i : Int, Wk x first l ps i ∧ J l ps w ∧ ((i < 0 ∧ e = .returned (.int .i64 0)) ∨ (0 ≤ i ∧ Wrong x l ps i.toNat ∧ e = .returned (.int .i64 (if (∀ c, x.now[i.toNat]? = some c → c.used = false) ∧ i = first then 14 else 22))))) ∨ (Jx l ps w ∧ e = .returned (.int .i64 0))
def mC (l : List Nat) : Int → Option Value := fun i => if 0 ≤ i ∧ i.toNat ∈ l then some (.int .i64 1) else none
theorem zInt (w : World) : (zeroValue 3).run Tryd.prog w = .ok (.int .i64 0) w := by kernel_rfl

theorem decP_some {b P : List Int} {nx sz : Nat} (h : decP b sz = some (P, nx)) : pgL P nx sz = b ∧ nx ≤ 65535 ∧ 1 ≤ P.length ∧ P.length + 5 ≤ sz ∧ (0 < nx → P.length + 5 = sz) := by
  obtain ⟨n1, hn1⟩ : ∃ n, (b.getD 1 0).toNat + 256 * (b.getD 2 0).toNat = n := ⟨_, rfl⟩
  obtain ⟨n2, hn2⟩ : ∃ n, (b.getD 3 0).toNat + 256 * (b.getD 4 0).toNat = n := ⟨_, rfl⟩
  unfold decP at h
  simp only [hn1, hn2] at h
  split at h
  · cases h
  · rename_i hc
    simp only [not_or, Decidable.not_not] at hc
    obtain ⟨c1, c2, c3, c4⟩ := hc
    injection h with h
    injection h with h1 h2
    subst h2
    rw [h1] at c4
    have e1 : (b.getD 1 0) = ((n1 % 256 : Nat) : Int) := by rw [← c4]; simp [pgL]
    have e2 : (b.getD 2 0) = ((n1 / 256 % 256 : Nat) : Int) := by rw [← c4]; simp [pgL]
    have e3 : (b.getD 3 0) = ((P.length % 256 : Nat) : Int) := by rw [← c4]; simp [pgL]
    have e4 : (b.getD 4 0) = ((P.length / 256 % 256 : Nat) : Int) := by rw [← c4]; simp [pgL]
    rw [e1, e2] at hn1
    rw [e3, e4] at hn2
    have hPl : P.length ≤ n2 := by rw [← h1]; simp; omega
    refine ⟨c4, by omega, by omega, by omega, fun h0 => ?_⟩
    have : ¬ n2 < sz - 5 := fun e => c3 ⟨h0, e⟩
    omega
theorem mC_nil : mC [] = fun _ => none := by funext i; simp [mC]
theorem mC_at (l : List Nat) (k : Nat) : mC l (k : Int) = if k ∈ l then some (.int .i64 1) else none := by unfold mC; simp
theorem mC_more (l : List Nat) (k : Nat) : upd (mC l) (k : Int) (some (.int .i64 1)) = mC (l ++ [k]) := by
  funext i
  by_cases h : i = (k : Int)
  · subst h; rw [upd_same, mC_at]; simp
  · rw [upd_other h]
    unfold mC
    by_cases h0 : 0 ≤ i
    · have : i.toNat ≠ k := by omega
      simp [h0, this]
    · simp [h0]
theorem Wk.nd {x : Rp} {first i : Int} {l : List Nat} {ps : List (List Int)} (h : Wk x first l ps i) : l.Nodup ∧ (∀ j ∈ l, j < x.now.length) ∧ lenSum ps ≤ 16384 ∧ (l = [] ∧ i = first ∨ -1 ≤ i ∧ i ≤ 65535) := by
  induction h with
  | nil => exact ⟨List.nodup_nil, fun j hj => by simp at hj, Nat.zero_le _, .inl ⟨rfl, rfl⟩⟩
  | @snoc l ps i c P nx h1 h2 h3 h4 h5 h6 ih =>
    refine ⟨List.nodup_append.2 ⟨ih.1, by simp, fun a ha b hb e => ?_⟩, fun j hj => ?_, ?_, .inr ⟨by omega, ?_⟩⟩
    · simp only [List.mem_singleton] at hb; subst hb; exact h5 (e ▸ ha)
    · rcases List.mem_append.1 hj with e | e
      · exact ih.2.1 j e
      · simp only [List.mem_singleton] at e; subst e; exact (List.getElem?_eq_some_iff.1 h2).1
    · unfold lenSum at h6 ⊢
      simp only [List.map_append, List.sum_append, List.map_cons, List.map_nil, List.sum_cons, List.sum_nil]
      omega
    · have := (decP_some h4).2.1; omega
theorem Wk.len {x : Rp} {first i : Int} {l : List Nat} {ps : List (List Int)} (h : Wk x first l ps i) : l.length ≤ x.now.length := by
  have := List.Nodup.length_le_of_subset h.nd.1 (l₂ := List.range x.now.length) fun s hs => List.mem_range.2 (h.nd.2.1 s hs)
  rwa [List.length_range] at this

set_option maxRecDepth 100000 in
set_option maxHeartbeats 3200000 in
theorem walk_any (p f : Nat) (first : Int) (F : Nat → Prop) (x : Rp) (lb : Array Value) (J Jx : List Nat → List (List Int) → World → Prop) (w : World)
    (hf : ∀ args w, (callFunc f args).run Tryd.prog w = .ok (.enter f args) w)
    (hgp : ∀ l ps W, J l ps W → GP W p F x)
    (hst : ∀ l ps W W', J l ps W → Chg (fun j => F j ∨ j = w.heap.size) W W' → GP W' p F x → J l ps W')
    (hy : ∀ l ps (i : Nat) P g c W0 W nx, J l ps W0 → W0.heap.size ≤ g → Chg (fun j => F j ∨ j = w.heap.size) W0 W → GP W p F x → Wk x first (l ++ [i]) (ps ++ [P]) nx → Sl W 1 (some ⟨g, 5, none⟩) P.length (bv P) → w.heap.size < g → ¬ F g → P.length ≤ c →
      Calls Tryd.prog f (#[.int .i64 i, .slice (some ⟨g, 5, none⟩) P.length c] ++ lb) W (fun e W' => Chg (fun j => j ≠ w.heap.size) W W' ∧ Rounded (J (l ++ [i]) (ps ++ [P])) (Jx (l ++ [i]) (ps ++ [P])) e W')) (h0 : J [] [] w)
    (hF0 : ∀ j, F j → j < w.heap.size) (hfi : -9223372036854775808 ≤ first ∧ first ≤ 9223372036854775807) :
    Calls Tryd.prog 54 #[.pointer (some ⟨p, 0, none⟩), .int .i64 first, .func (.func f) #[] lb] w fun e w' => WkEnd x first J Jx e w' := by
  have hmm := @run_makeMap Tryd.prog
  have hszx := (hgp _ _ _ h0).szs
  obtain ⟨b0, hb0⟩ : ∃ b0, w.heap.size = b0 := ⟨_, rfl⟩
  obtain ⟨W1, hW1⟩ : ∃ W, w.alloc (.map #[] 0) = W := ⟨_, rfl⟩
  have hJ1 : J [] [] W1 ∧ IMap Tryd.prog 3 W1 b0 (mC []) 0 := by
    subst hW1
    refine ⟨hst _ _ _ _ h0 ((Chg.refl _ _).alloc _) ((hgp _ _ _ h0).grew ((Chg.refl _ _).alloc _)), ?_⟩
    rw [mC_nil, ← hb0]
    exact IMap.made _ _ _
  rw [hb0] at hst hy hF0
  have H := Lib.hid (And.intro hgp (And.intro hst (And.intro hy hF0)))
  have HJ1 := Lib.hid hJ1
  obtain ⟨N, hN⟩ : ∃ N, x.now.length = N := ⟨_, rfl⟩
  have HN := Lib.hid hN
  have hN4 : N ≤ 4096 := by omega
  have HW1 := Lib.hid hW1
  have Hb0 := Lib.hid hb0
  have Hw0 := Lib.hid (show 0 < b0 from hb0 ▸ tab_pos (hgp _ _ _ h0).tab)
  clear hgp hst hy h0 hF0 hb0 hJ1 hN hW1
  go_enter Tryd.func54, Tryd.ntmps54
  go_wp2_with (first | (rw [HW1.out]) | (rw [Hb0.out]))
  go_loopg [8, 9] (N + 1) (fun q t v wr => ∃ (l : List Nat) (ps : List (List Int)) (i : Int), q = N + 1 - l.length ∧ Wk x first l ps i ∧ J l ps wr ∧ IMap Tryd.prog 3 wr b0 (mC l) l.length ∧ t = .int .i64 (lenSum ps) ∧ v = .int .i64 i)
  case atStart => exact ⟨[], [], first, rfl, .nil, HJ1.out.1, HJ1.out.2, rfl, rfl⟩
  case round =>
    obtain ⟨l, ps, i, rfl, hwk, hJ, hM, rfl, rfl⟩ := hrel
    have HK := Lib.hid (And.intro hwk (And.intro hJ hM))
    obtain ⟨TT, hTT⟩ : ∃ TT, lenSum ps = TT := ⟨_, rfl⟩
    have HT := Lib.hid hTT
    have hT16 : TT ≤ 16384 := hTT ▸ hwk.nd.2.2.1
    have hll := hwk.len
    have hib : -9223372036854775808 ≤ i ∧ i ≤ 9223372036854775807 := by
      rcases hwk.nd.2.2.2 with ⟨-, rfl⟩ | e
      · exact hfi
      · omega
    rw [hTT]
    have hgpw := H.out.1 _ _ _ hJ
    have HG := Lib.hid hgpw
    clear hwk hJ hM hTT hgpw
    obtain ⟨ib1, ib2⟩ := hib
    by_cases hneg : i < 0
    · have t1 : decide ((0 : Int) ≤ i) = false := decide_eq_false (by omega)
      go_wp2
      go_ret
      exact ⟨l, ps, .inl ⟨i, HK.out.1, HK.out.2.1, .inl ⟨hneg, rfl⟩⟩⟩
    · have t1 : decide ((0 : Int) ≤ i) = true := decide_eq_true (by omega)
      obtain ⟨k, rfl⟩ := Int.eq_ofNat_of_zero_le (show 0 ≤ i by omega)
      by_cases hused : ∃ c, x.now[k]? = some c ∧ c.used = true
      · obtain ⟨c, hc1, hc2⟩ := hused
        have hcp := cpart_any p k F x c wr HG.out hc1 hc2
        obtain ⟨o, ho⟩ : ∃ o, decP (c.bytes x.sz) x.sz = o := ⟨_, rfl⟩
        rw [ho] at hcp
        have HC := Lib.hid (And.intro hc1 (And.intro hc2 ho))
        have HP := Lib.hid hcp
        clear hc1 hc2 ho hcp hneg
        cases o with
        | none =>
          have hwr : Wrong x l ps k := .inr ⟨c, HC.out.1, HC.out.2.1, .inl HC.out.2.2⟩
          have HWr := Lib.hid hwr
          clear hwr
          by_cases hfirst : (k : Int) = first
          · have t2 : ((k : Int) == first) = true := by simp [hfirst]
            clear hfirst
            go_wp2_with (go_at_call 68; (refine HP.out.mono ?_); rintro e w3 ⟨hg3, hc3, rfl⟩; have H3 := Lib.hid (And.intro hg3 hc3); clear hg3 hc3)
            go_ret
            refine ⟨l, ps, .inl ⟨k, HK.out.1, H.out.2.1 _ _ _ _ HK.out.2.1 (H3.out.2.mono fun _ _ e => .inl e) H3.out.1, .inr ⟨by omega, HWr.out, ?_⟩⟩⟩
            rw [if_neg (fun e => by have := e.1 c HC.out.1; rw [HC.out.2.1] at this; cases this)]
            rfl
          · have t2 : ((k : Int) == first) = false := by simpa using hfirst
            clear hfirst
            go_wp2_with (go_at_call 68; (refine HP.out.mono ?_); rintro e w3 ⟨hg3, hc3, rfl⟩; have H3 := Lib.hid (And.intro hg3 hc3); clear hg3 hc3)
            go_ret
            refine ⟨l, ps, .inl ⟨k, HK.out.1, H.out.2.1 _ _ _ _ HK.out.2.1 (H3.out.2.mono fun _ _ e => .inl e) H3.out.1, .inr ⟨by omega, HWr.out, ?_⟩⟩⟩
            rw [if_neg (fun e => by have := e.1 c HC.out.1; rw [HC.out.2.1] at this; cases this)]
            rfl
        | some y =>
          obtain ⟨P, nx⟩ := y
          have hds := decP_some HC.out.2.2
          have hPl : P.length ≤ 4096 := by omega
          have hnx5 : nx ≤ 65535 := hds.2.1
          have hk4 : k < 4096 := by have := (List.getElem?_eq_some_iff.1 HC.out.1).1; omega
          clear hds
          go_wp2_with fail
          refine HP.out.mono ?_
          rintro e w3 ⟨hg3, hc3, g, cc, rfl, hcc, hsl, hgb, hgF⟩
          have hb0w : b0 < wr.heap.size := HK.out.2.2.lt
          have hM3 := HK.out.2.2.chg hc3 (fun e => by have := H.out.2.2.2 _ e; omega)
          have hlk := hM3.look (t := 107) kInt Tryd.underlying3 Tryd.underlying107 (zInt w3) (i := (k : Int)) (wfInt (by omega) (by omega))
          rw [mC_at] at hlk
          have H3 := Lib.hid (And.intro hg3 (And.intro hc3 (And.intro hM3 (And.intro hsl (And.intro (show b0 < g by omega) (And.intro hgF hgb))))))
          have hstop : (k ∈ l ∨ 16384 < TT + P.length) → WkEnd x first J Jx (.returned (.int .i64 22)) w3 := fun hbad => by
            refine ⟨l, ps, .inl ⟨k, HK.out.1, H.out.2.1 _ _ _ _ HK.out.2.1 (hc3.mono fun _ _ e => .inl e) hg3, .inr ⟨by omega, .inr ⟨c, HC.out.1, HC.out.2.1, .inr ⟨P, nx, HC.out.2.2, by rw [HT.out]; exact hbad⟩⟩, ?_⟩⟩⟩
            rw [if_neg (fun e => by have := e.1 c HC.out.1; rw [HC.out.2.1] at this; cases this)]
          have HS := Lib.hid hstop
          clear hg3 hc3 hM3 hsl hgb hgF hstop
          by_cases hkl : k ∈ l
          · rw [if_pos hkl] at hlk
            simp only [Option.getD_some] at hlk
            go_wp2
            go_ret
            exact HS.out (.inl hkl)
          · rw [if_neg hkl] at hlk
            simp only [Option.getD_none] at hlk
            by_cases htot : 16384 < TT + P.length
            · have t5 : decide ((16384 : Int) < (TT : Int) + (P.length : Int)) = true := decide_eq_true (by omega)
              go_wp2
              go_ret
              exact HS.out (.inr htot)
            · have t5 : decide ((16384 : Int) < (TT : Int) + (P.length : Int)) = false := decide_eq_false (by omega)
              obtain ⟨W4, hput, hM4, hc4⟩ := H3.out.2.2.1.put (t := 107) kInt Tryd.underlying3 Tryd.underlying107 (by simp only [maxLen]; omega) (i := (k : Int)) (wfInt (by omega) (by omega)) (.int .i64 1)
              rw [mC_more, mC_at, if_neg hkl] at hM4
              simp only [Option.isSome_none, Bool.false_eq_true, if_false] at hM4
              have H4 := Lib.hid (And.intro hM4 (And.intro hc4 (And.intro hkl htot)))
              have hwk2 : Wk x first (l ++ [k]) (ps ++ [P]) ((nx : Int) - 1) := .snoc HK.out.1 HC.out.1 HC.out.2.1 HC.out.2.2 hkl (by rw [HT.out]; omega)
              have HWk2 := Lib.hid hwk2
              have hll2 : (l ++ [k]).length ≤ N := by have := hwk2.len; rw [HN.out] at this; exact this
              have hls : lenSum (ps ++ [P]) = TT + P.length := by
                rw [← HT.out]
                unfold lenSum
                simp [List.sum_append]
              have HLs := Lib.hid hls
              clear hM4 hc4 hkl htot HS hwk2 hls
              go_wp2_with fail
              have hgp4 : GP W4 p F x := H3.out.1.chg H4.out.2.1 (fun j hj e => by have := H.out.2.2.2 j hj; omega) (fun e => by have := tab_pos H3.out.1.tab; have := Hb0.out; have := HG.out.zero; have h0 := HJ1.out.2.lt; have := tab_pos (HG.out.tab); have hw0 := Hw0.out; omega)
              refine (H.out.2.2.1 l ps k P g cc wr W4 _ HK.out.2.1 H3.out.2.2.2.2.2.2 (Chg.trans (H3.out.2.1.mono fun _ _ e => .inl e) H4.out.2.1 fun i _ e => .inr e) hgp4 HWk2.out (H3.out.2.2.2.1.chg H4.out.2.1 (fun a ha e => by injection ha with ha; subst ha; have := H3.out.2.2.2.2.1; simp only at e; omega)) H3.out.2.2.2.2.1 H3.out.2.2.2.2.2.1 hcc).mono ?_
              clear hgp4 hlk hput
              rintro e w5 ⟨hcg, (⟨rfl, hJ5⟩ | ⟨rfl, hJ5⟩)⟩
              · have H5 := Lib.hid (And.intro hJ5 hcg)
                clear hJ5 hcg
                go_wp2_with fail
                go_roundg (N + 1 - (l ++ [k]).length)
                case measure =>
                  have e : (l ++ [k]).length = l.length + 1 := by simp
                  rw [e] at hll2 ⊢
                  omega
                case rel => exact ⟨l ++ [k], ps ++ [P], (nx : Int) - 1, rfl, HWk2.out, H5.out.1, by have := H4.out.1.chg H5.out.2 (fun e => e rfl); simpa using this, by rw [HLs.out]; simp, rfl⟩
              · have H5 := Lib.hid hJ5
                clear hJ5 hcg
                go_wp2_with fail
                go_ret
                exact ⟨l ++ [k], ps ++ [P], .inr ⟨H5.out, rfl⟩⟩
      · have hno : ∀ c, x.now[k]? = some c → c.used = false := fun c hc => by cases e : c.used with | false => rfl | true => exact absurd ⟨c, hc, e⟩ hused
        have hcp := cpart_none p k F x wr HG.out (by
          by_cases e : k < x.now.length
          · refine .inr (.inr ?_)
            rw [Int.toNat_natCast, List.getElem?_eq_getElem e]
            have := hno _ (List.getElem?_eq_getElem e)
            revert this
            generalize x.now[k] = c
            cases c <;> simp [Pk.used]
          · exact .inr (.inl (by omega)))
        have HP := Lib.hid hcp
        have HWr := Lib.hid (And.intro hno (show Wrong x l ps k from .inl hno))
        clear hno hcp hused hneg
        by_cases hfirst : (k : Int) = first
        · have t2 : ((k : Int) == first) = true := by simp [hfirst]
          have HF := Lib.hid hfirst
          clear hfirst
          go_wp2_with (go_at_call 68; (refine HP.out.mono ?_); rintro e w3 ⟨rfl, rfl⟩)
          go_ret
          refine ⟨l, ps, .inl ⟨k, HK.out.1, HK.out.2.1, .inr ⟨by omega, HWr.out.2, ?_⟩⟩⟩
          rw [if_pos ⟨HWr.out.1, HF.out⟩]
          rfl
        · have t2 : ((k : Int) == first) = false := by simpa using hfirst
          have HF := Lib.hid hfirst
          clear hfirst
          go_wp2_with (go_at_call 68; (refine HP.out.mono ?_); rintro e w3 ⟨rfl, rfl⟩)
          go_ret
          refine ⟨l, ps, .inl ⟨k, HK.out.1, HK.out.2.1, .inr ⟨by omega, HWr.out.2, ?_⟩⟩⟩
          rw [if_neg (fun e => HF.out e.2)]
          rfl

end Go.Proofs.YtjlfnebkibgfmaaDoor

/- A drawn region whose last operations write what its loads read, and wait for the loads through another one. No program stands in this text. -/
namespace Go.Proofs.YtjlfnebkibgfmaaDoor
open Go.RowKit

section
variable {P : Program} {ops : Array Oper} {Q : Exit → Act → World → Prop} {md : Region.Mode} {S : World → Prop} {X : List Nat}

/-- All of X wait for i, or for one of M. -/
def waitsM (md : Region.Mode) (ops : Array Oper) (X M : List Nat) (i : Nat) : Bool := X.all fun j => match ops[j]? with
  | some o => o.after.any fun e => Region.binds md e && (e.on == i || M.contains e.on)
  | none => true
theorem wpAnyX_firstM {i : Nat} {oi : Oper} {v : Value} {M : List Nat} (hi : ops[i]? = some oi) (hsel : ∀ (j : Nat) (o : Oper) cs b, ops[j]? = some o → o.op ≠ .select cs b)
    (hQ : ∀ c a w, Q (.panic c) (a.put oi.dst v) w → Q (.panic c) a w) (hX : waitsM md ops X M i = true) (hM : waitsB md ops M i = true) (fuel : Nat) : ∀ (listed : Array Bool) (a : Act) (w : World),
      (∀ j oj, ops[j]? = some oj → j ≠ i → listed.getD j true = false → (∀ e ∈ oj.after, Region.binds md e = true → e.on ≠ i) → oi.apart ops oj = true) →
      (∀ k ∈ M, listed.getD k true = false) →
      i ∈ Region.ready md ops listed → YieldsIf P ops S oi v a → S w →
      wpAnyX P md ops Q S X fuel (listed.setIfInBounds i true) (a.put oi.dst v) w → wpAnyX P md ops Q S X (fuel + 1) listed a w := by
  induction fuel with
  | zero =>
    intro listed a w _ _ hr hy hS H
    refine ⟨fun h => absurd hr (by rw [h]; simp), fun j hj => ?_⟩
    rcases Nat.decEq j i with hji | hji
    · have := ready_mono hj hji
      rw [H.1] at this
      cases this
    · subst hji
      exact hy.wpOp hi hS ⟨fun _ => hS, H⟩
  | succ fuel ih =>
    intro listed a w hfree hml hr hy hS H
    refine ⟨fun h => absurd hr (by rw [h]; simp), fun j hj => ?_⟩
    rcases Nat.decEq j i with hji | hji
    · obtain ⟨hun, oj, hoj, hall⟩ := mem_ready.1 hj
      have hiun := (mem_ready.1 hr).1
      have hnot : ∀ e ∈ oj.after, Region.binds md e = true → e.on ≠ i := by
        intro e he hb heq
        have hl := hall e he hb
        rw [heq] at hl
        by_cases hsz : i < listed.size
        · simp [hsz] at hiun hl; rw [hiun] at hl; cases hl
        · simp [Array.getElem?_eq_none (Nat.le_of_not_lt hsz)] at hl
      have hnotM : ∀ e ∈ oj.after, Region.binds md e = true → e.on ∉ M := by
        intro e he hb hm
        have hl := hall e he hb
        have hun' := hml _ hm
        by_cases hsz : e.on < listed.size
        · simp [hsz] at hun' hl; rw [hun'] at hl; cases hl
        · simp [Array.getElem?_eq_none (Nat.le_of_not_lt hsz)] at hl
      have hjM : j ∉ M := fun hm => by
        have h1 := List.all_eq_true.1 hM j hm
        rw [hoj] at h1
        obtain ⟨e, he, hb⟩ := Array.any_eq_true'.1 h1
        simp only [Bool.and_eq_true, beq_iff_eq] at hb
        exact hnot e he hb.1 hb.2
      have step := wpOp_putIf hoj (hfree j oj hoj hji hun hnot) (fun cs b => hsel i oi cs b hi) (fun cs b => hsel j oj cs b hoj) hQ hy (H.2 j (ready_mono hj hji))
      have hnx : X.contains j = false := by
        cases hc : X.contains j with
        | false => rfl
        | true =>
          have h1 := List.all_eq_true.1 hX j (by simpa using hc)
          rw [hoj] at h1
          obtain ⟨e, he, hb⟩ := Array.any_eq_true'.1 h1
          simp only [Bool.and_eq_true, Bool.or_eq_true, beq_iff_eq] at hb
          rcases hb.2 with e2 | e2
          · exact absurd e2 (hnot e he hb.1)
          · exact absurd (by simpa using e2) (hnotM e he hb.1)
      refine wpOp_mono (fun a' w' h3 => ?_) step
      have hS' := h3.2.1 hnx
      refine ⟨fun _ => hS', ih (listed.setIfInBounds j true) a' w' (fun k ok hk hki hkun hno => hfree k ok hk hki ?_ hno) (fun k hk => ?_) (ready_mono hr (Ne.symm hji)) h3.1 hS' (by rw [Array.setIfInBounds_comm _ _ hji]; exact h3.2.2)⟩
      · rcases Nat.decEq j k with hjk | hjk
        · rwa [getD_set_ne true hjk] at hkun
        · exact hjk ▸ hun
      · have hjk : j ≠ k := fun e => hjM (e ▸ hk)
        rw [getD_set_ne true hjk]
        exact hml k hk
    · subst hji
      exact hy.wpOp hi hS ⟨fun _ => hS, H⟩
theorem wpAnyX_takeM (M : List Nat) {i : Nat} {oi : Oper} {v : Value} {fuel : Nat} {listed : Array Bool} {a : Act} {w : World} (hi : ops[i]? = some oi)
    (hs : Region.noSelect ops = true) (hf : Region.free md ops listed i = true) (hr : (Region.ready md ops listed).contains i = true) (hX : waitsM md ops X M i = true) (hM : waitsB md ops M i = true) (hml : (M.all fun k => listed.getD k true == false) = true)
    (hQ : ∀ c a w, Q (.panic c) (a.put oi.dst v) w → Q (.panic c) a w) (hy : YieldsIf P ops S oi v a) (hS : S w)
    (h : wpAnyX P md ops Q S X fuel (listed.setIfInBounds i true) (a.put oi.dst v) w) : wpAnyX P md ops Q S X (fuel + 1) listed a w :=
  wpAnyX_firstM hi (Region.noSelect_spec hs) hQ hX hM fuel listed a w (Region.free_spec hi hf) (fun k hk => by simpa using List.all_eq_true.1 hml k hk) (by simpa using hr) hy hS h
end

end Go.Proofs.YtjlfnebkibgfmaaDoor

/- The chain: all. -/
namespace Go.Proofs.YtjlfnebkibgfmaaDoor
open Go.RowKit Go.Maps

theorem own_ne_own {w : World} {b1 b2 n1 n2 s1 s2 : Nat} {e1 e2 : TypeId} {v1 v2 : Value} {xs ys : List Value} (h : w.ownsRow b1 e1 s1 v1 n1 xs) (k : w.ownsRow b2 e2 s2 v2 n2 ys) (he : e1 ≠ e2) : ∀ g, v2.ownBlock = some g → v1.ownBlock ≠ some g := by
  intro g hg h1
  rcases h.2 with ⟨rfl, _⟩ | ⟨g1, c1, cur1, rfl, _, hh, _⟩
  · simp [Value.ownBlock] at h1
  · have e : g1 = g := by simpa [Value.ownBlock] using h1
    subst e
    exact own_blk_ne k (show Blk w g1 e1 cur1 from hh) (Ne.symm he) hg

theorem grown_chg {w w' : World} {row : Option Nat} (h : w.grownBy w' row) : Chg (fun j => some j = row) w w' := ⟨h.os, h.tape, h.output, h.size, fun k hk hn => h.block k hk hn⟩
/-- The pages and the record so far. -/
structure AllJ (w W : World) (a0 p : Nat) (F : Nat → Prop) (x : Rp) (l : List Nat) (ps : List (List Int)) (v1 v2 : Value) : Prop where
  gp : GP W p F x
  chg : Chg F w W
  b1 : Blk W a0 39 #[v1]
  b2 : Blk W (a0 + 1) 29 #[v2]
  r1 : W.ownsRow (a0 + 3) 3 1 v1 l.length (nv l)
  r2 : W.ownsRow (a0 + 3) 5 1 v2 (lenSum ps) (bv ps.flatten)
  sz : w.heap.size = a0
  lt : ∀ j, F j → j < a0
  big : a0 + 2 ≤ W.heap.size
  pos : 0 < a0
section
variable {w W W' : World} {a0 p : Nat} {F : Nat → Prop} {x : Rp} {l : List Nat} {ps : List (List Int)} {v1 v2 v1' v2' : Value}
theorem AllJ.far (h : AllJ w W a0 p F x l ps v1 v2) (hc : Chg (fun j => F j ∨ j = a0 + 2) W W') (hg : GP W' p F x) : AllJ w W' a0 p F x l ps v1 v2 := by
  have hsz := h.sz
  refine ⟨hg, Chg.trans h.chg hc fun i hi e => e.elim id fun e => by omega, h.b1.chg hc ?_, h.b2.chg hc ?_, own_chg h.r1 hc fun g hg e => ?_, own_chg h.r2 hc fun g hg e => ?_, hsz, h.lt, Nat.le_trans h.big hc.size, h.pos⟩
  · rintro (e | e)
    · have := h.lt _ e; omega
    · omega
  · rintro (e | e)
    · have := h.lt _ e; omega
    · omega
  · have := (h.r1.lt g hg).1
    rcases e with e | e
    · have := h.lt _ e; omega
    · omega
  · have := (h.r2.lt g hg).1
    rcases e with e | e
    · have := h.lt _ e; omega
    · omega
end

set_option maxRecDepth 100000 in
set_option maxHeartbeats 3200000 in
theorem allyield_any (a0 p i g c : Nat) (F : Nat → Prop) (x : Rp) (l : List Nat) (ps : List (List Int)) (P : List Int) (v1 v2 : Value) (w W : World) (h : AllJ w W a0 p F x l ps v1 v2) (hl : l.length ≤ 5000) (hps : lenSum ps ≤ 20000) (hP : 1 ≤ P.length ∧ P.length ≤ 20000)
    (hs : Sl W 1 (some ⟨g, 5, none⟩) P.length (bv P)) (hg1 : v1.ownBlock ≠ some g) (hW : a0 + 3 ≤ W.heap.size) :
    Calls Tryd.prog 55 #[.int .i64 i, .slice (some ⟨g, 5, none⟩) P.length c, .pointer (some ⟨a0, 0, none⟩), .pointer (some ⟨a0 + 1, 0, none⟩)] W fun e W' => e = .returned (.bool true) ∧ Chg (fun j => j ≠ a0 + 2) W W' ∧ ∃ v1' v2', AllJ w W' a0 p F x (l ++ [i]) (ps ++ [P]) v1' v2' := by
  obtain ⟨i0, hi0, hz0, hz1, hz2⟩ := info_parts u8Info_
  have H := Lib.hid (And.intro h hs)
  have hb1 := (h.b1.drew).cell 0
  have hb2 := (h.b2.drew).cell 0
  obtain ⟨A1, k1, rfl, -⟩ := own_shape h.r1
  obtain ⟨A2, k2, rfl, -⟩ := own_shape h.r2
  have hlt := h.b2.lt
  clear h hs
  go_enter Tryd.func55, Tryd.ntmps55
  go_wp2
  refine wp_region_x [7, 8] (S := fun w' => w'.cell? ⟨a0, 0, none⟩ = some (.slice A1 l.length k1) ∧ w'.cell? ⟨a0 + 1, 0, none⟩ = some (.slice A2 (lenSum ps) k2)) (by kernel_rfl) ⟨hb1, hb2⟩ (fun hHeld => ?_)
  refine wpAnyX_takeM [6] (i := 4) (v := ?_) rfl (by kernel_rfl) (by kernel_rfl) (by kernel_rfl) (by kernel_rfl) (by kernel_rfl) (by kernel_rfl) (fun _ _ _ h => h) (Or.inl ⟨by rfl, ?_⟩) hHeld ?_
  rotate_left
  · (intro w hSw; (try dsimp only at hSw); go_simp) <;> with_reducible rfl
  (try simp only [Act.put, List.setIfInBounds_toArray, List.set_cons_zero, List.set_cons_succ, List.getElem_toArray, List.getElem_cons_zero, List.getElem_cons_succ])
  refine wpAnyX_takeM [6] (i := 5) (v := ?_) rfl (by kernel_rfl) (by kernel_rfl) (by kernel_rfl) (by kernel_rfl) (by kernel_rfl) (by kernel_rfl) (fun _ _ _ h => h) (Or.inl ⟨by rfl, ?_⟩) hHeld ?_
  rotate_left
  · (intro w hSw; (try dsimp only at hSw); go_simp) <;> with_reducible rfl
  (try simp only [Act.put, List.setIfInBounds_toArray, List.set_cons_zero, List.set_cons_succ, List.getElem_toArray, List.getElem_cons_zero, List.getElem_cons_succ])
  refine wpAnyX_take (i := 0) (v := ?_) rfl (by kernel_rfl) (by kernel_rfl) (by kernel_rfl) (by kernel_rfl) (fun _ _ _ h => h) (Or.inl ⟨by rfl, ?_⟩) hHeld ?_
  rotate_left
  · (intro w hSw; (try dsimp only at hSw); go_simp) <;> with_reducible rfl
  (try simp only [Act.put, List.setIfInBounds_toArray, List.set_cons_zero, List.set_cons_succ, List.getElem_toArray, List.getElem_cons_zero, List.getElem_cons_succ])
  refine wpAnyX_take (i := 1) (v := ?_) rfl (by kernel_rfl) (by kernel_rfl) (by kernel_rfl) (by kernel_rfl) (fun _ _ _ h => h) (Or.inl ⟨by rfl, ?_⟩) hHeld ?_
  rotate_left
  · (intro w hSw; (try dsimp only at hSw); go_simp) <;> with_reducible rfl
  (try simp only [Act.put, List.setIfInBounds_toArray, List.set_cons_zero, List.set_cons_succ, List.getElem_toArray, List.getElem_cons_zero, List.getElem_cons_succ])
  refine wpAnyX_ready (rs := [2]) (by kernel_rfl) (by simp) ?_
  refine AllReadyX.cons rfl (fun K hK => ?_) AllReadyX.nil
  go_simp
  have hS2 : (W.drew.alloc (.cells #[.int .i64 i] 3)).cell? ⟨a0, 0, none⟩ = some (.slice A1 l.length k1) ∧ (W.drew.alloc (.cells #[.int .i64 i] 3)).cell? ⟨a0 + 1, 0, none⟩ = some (.slice A2 (lenSum ps) k2) := ⟨((H.out.1.b1.drew).alloc _).cell 0, ((H.out.1.b2.drew).alloc _).cell 0⟩
  refine hK.out _ _ (fun _ => hS2) ?_
  clear hK K
  (try simp only [Act.put, List.setIfInBounds_toArray, List.set_cons_zero, List.set_cons_succ, List.getElem_toArray, List.getElem_cons_zero, List.getElem_cons_succ])
  refine wpAnyX_ready (rs := [3]) (by kernel_rfl) (by simp) ?_
  refine AllReadyX.cons rfl (fun K hK => ?_) AllReadyX.nil
  refine step_app_int (by rfl) (.tmp 7) (.tmp 9) (by rfl) (a0 + 3) (.slice A1 l.length k1) l.length (nv l) (by rfl) (own_grew H.out.1.r1 ((Chg.refl _ _).drew)) i (by rfl) (by omega) (by simpa using hW) ?_
  intro v1' w1 ho1 ha1
  obtain ⟨A1', k1', rfl, -⟩ := own_shape ho1
  have hsz := H.out.1.sz
  have hbl : ∀ j, j < a0 + 3 → ¬ (Value.slice A1 l.length k1).ownBlock = some j := fun j hj e => by have := (H.out.1.r1.lt j e).1; omega
  have hc1 : Chg (fun j => (Value.slice A1 l.length k1).ownBlock = some j) W w1 := Grew.then ((Chg.refl NoF W).drew) ha1.chg
  have hB1 := H.out.1.b1.chg hc1 (hbl _ (by omega))
  have hB2 := H.out.1.b2.chg hc1 (hbl _ (by omega))
  have hR2 := own_chg H.out.1.r2 hc1 (own_ne_own H.out.1.r1 H.out.1.r2 (by decide))
  have hs1 := H.out.2.chg hc1 (fun a ha e => by injection ha with ha; subst ha; exact hg1 e)
  have hS3 : w1.cell? ⟨a0, 0, none⟩ = some (.slice A1 l.length k1) ∧ w1.cell? ⟨a0 + 1, 0, none⟩ = some (.slice A2 (lenSum ps) k2) := ⟨hB1.cell 0, hB2.cell 0⟩
  have hbig1 : a0 + 3 ≤ w1.heap.size := Nat.le_trans hW hc1.size
  obtain ⟨v2', w2, hr2, ho2, hg2, -⟩ := run_append_own (P := Tryd.prog) w1 (a0 + 3) 29 29 5 i0 _ 1 1 Tryd.underlying29 hi0 hz0 hz1 hz2 rfl (by omega) (.slice A2 (lenSum ps) k2) (lenSum ps) (bv ps.flatten) hR2 ⟨g, 5, none⟩ P.length c (bv P) (by rw [bv_len, Nat.mul_one])
    (fun j u hu => by
      obtain ⟨b, o, e, hb, hx⟩ := hs1.2 (by omega)
      cases e
      rw [Addr.add_lit]
      exact hx j u hu) (bv_one P) (by simp only [maxLen]; omega) (by omega) hbig1
  obtain ⟨A2', k2', rfl, -⟩ := own_shape ho2
  have hbl2 : ∀ j, j < a0 + 3 → ¬ some j = (Value.slice A2 (lenSum ps) k2).ownBlock := fun j hj e => by have := (H.out.1.r2.lt j e.symm).1; omega
  have hc2 : Chg (fun j => some j = (Value.slice A2 (lenSum ps) k2).ownBlock) w1 w2 := grown_chg hg2
  have hC1 := hB1.chg hc2 (hbl2 _ (by omega))
  have hC2 := hB2.chg hc2 (hbl2 _ (by omega))
  have hR1 := own_chg ho1 hc2 (fun q hq e => own_ne_own ho1 hR2 (by decide) q e.symm hq)
  have HA := Lib.hid (And.intro hc1 (And.intro hc2 (And.intro hR1 (And.intro ho2 (And.intro hC1 hC2)))))
  have f1 := hC1.frozen 0
  have f2 := hC2.frozen 0
  have l1 := hC1.lt
  have l2 := hC2.lt
  have hS6 : w2.cell? ⟨a0, 0, none⟩ = some (.slice A1 l.length k1) ∧ w2.cell? ⟨a0 + 1, 0, none⟩ = some (.slice A2 (lenSum ps) k2) := ⟨hC1.cell 0, hC2.cell 0⟩
  clear ho1 ha1 hc1 hB1 hB2 hR2 hs1 ho2 hg2 hc2 hC1 hC2 hR1
  refine hK.out _ _ (fun _ => hS3) ?_
  clear hK K
  (try simp only [Act.put, List.setIfInBounds_toArray, List.set_cons_zero, List.set_cons_succ, List.getElem_toArray, List.getElem_cons_zero, List.getElem_cons_succ])
  refine wpAnyX_ready (rs := [6]) (by kernel_rfl) (by simp) ?_
  refine AllReadyX.cons rfl (fun K hK => ?_) AllReadyX.nil
  refine step_append_run (by rfl) (.tmp 11) (.tmp 12) 29 (by rfl) (by rfl) (by rfl) hr2 ?_
  refine hK.out _ _ (fun _ => hS6) ?_
  clear hK K
  (try simp only [Act.put, List.setIfInBounds_toArray, List.set_cons_zero, List.set_cons_succ, List.getElem_toArray, List.getElem_cons_zero, List.getElem_cons_succ])
  refine wpAnyX_ready (rs := [7]) (by kernel_rfl) (by simp) ?_
  refine AllReadyX.cons rfl (fun K hK => ?_) AllReadyX.nil
  go_simp
  refine hK.out _ _ (fun h => by cases h) ?_
  clear hK K
  (try simp only [Act.put, List.setIfInBounds_toArray, List.set_cons_zero, List.set_cons_succ, List.getElem_toArray, List.getElem_cons_zero, List.getElem_cons_succ])
  refine wpAnyX_ready (rs := [8]) (by kernel_rfl) (by simp) ?_
  refine AllReadyX.cons rfl (fun K hK => ?_) AllReadyX.nil
  go_simp
  refine hK.out _ _ (fun h => by cases h) ?_
  clear hK K
  (try simp only [Act.put, List.setIfInBounds_toArray, List.set_cons_zero, List.set_cons_succ, List.getElem_toArray, List.getElem_cons_zero, List.getElem_cons_succ])
  refine wpAnyX_done (by kernel_rfl) ?_ _
  clear hHeld hS2 hS3 hS6 hr2
  go_wp2
  go_ret
  obtain ⟨hc1, hc2, hR1, hR2, hC1, hC2⟩ := HA.out
  have hc3 : Chg (fun j => j = a0 ∨ j = a0 + 1) w2 ((w2.setCell ⟨a0, 0, none⟩ (.slice A1' (l.length + 1) k1')).setCell ⟨a0 + 1, 0, none⟩ (.slice A2' (lenSum ps + P.length) k2')) := ((Chg.refl (fun j => j = a0 ∨ j = a0 + 1) _).setCell (p := ⟨a0, 0, none⟩) (fun _ => .inl rfl) _).setCell (p := ⟨a0 + 1, 0, none⟩) (fun _ => .inr rfl) _
  have hlt := H.out.1.lt
  have hc : Chg (fun j => (j = a0 ∨ j = a0 + 1) ∨ a0 + 3 ≤ j) W ((w2.setCell ⟨a0, 0, none⟩ (.slice A1' (l.length + 1) k1')).setCell ⟨a0 + 1, 0, none⟩ (.slice A2' (lenSum ps + P.length) k2')) :=
    Chg.trans (Chg.trans (hc1.mono fun j _ e => .inr (H.out.1.r1.lt j e).1) hc2 fun j _ e => .inr (H.out.1.r2.lt j e.symm).1) hc3 fun j _ e => .inl e
  refine ⟨rfl, hc.mono fun j _ e => by omega, .slice A1' (l.length + 1) k1', .slice A2' (lenSum ps + P.length) k2', ⟨H.out.1.gp.chg hc (fun j hj e => by have := hlt j hj; omega) (fun e => by have := H.out.1.pos; omega), Chg.trans H.out.1.chg hc fun j hj e => by omega, ?_, ?_, ?_, ?_, hsz, hlt, Nat.le_trans H.out.1.big hc.size, H.out.1.pos⟩⟩
  · have := (hC1.put 0 (.slice A1' (l.length + 1) k1')).far (p := ⟨a0 + 1, 0, none⟩) (by simp) (.slice A2' (lenSum ps + P.length) k2')
    simpa using this
  · have := (hC2.far (p := ⟨a0, 0, none⟩) (by simp) (.slice A1' (l.length + 1) k1')).put 0 (.slice A2' (lenSum ps + P.length) k2')
    simpa using this
  · have e : (l ++ [i]).length = l.length + 1 := by simp
    rw [e]
    have := own_chg hR1 hc3 fun g hg e => by have := (hR1.lt g hg).1; omega
    simpa [nv] using this
  · have e : lenSum (ps ++ [P]) = lenSum ps + P.length := by unfold lenSum; simp [List.sum_append]
    rw [e]
    have := own_chg hR2 hc3 fun g hg e => by have := (hR2.lt g hg).1; omega
    simpa [bv] using this

/-- What all answers. -/
def AllOut (w w' : World) (p : Nat) (F : Nat → Prop) (x : Rp) (first : Int) (e : Ending) : Prop :=
  GP w' p F x ∧ Chg F w w' ∧ ((∃ l ps i A1 c1 A2 c2, Wk x first l ps i ∧ i < 0 ∧ e = .returned (.tuple #[.slice A1 l.length c1, .slice A2 (lenSum ps) c2, .int .i64 0]) ∧
      w'.ownsRow w.heap.size 3 1 (.slice A1 l.length c1) l.length (nv l) ∧ w'.ownsRow w.heap.size 5 1 (.slice A2 (lenSum ps) c2) (lenSum ps) (bv ps.flatten)) ∨
    (∃ l ps i, Wk x first l ps i ∧ 0 ≤ i ∧ Wrong x l ps i.toNat ∧ e = .returned (.tuple #[.slice none 0 0, .slice none 0 0, .int .i64 (if (∀ c, x.now[i.toNat]? = some c → c.used = false) ∧ i = first then 14 else 22)])) ∨
    (first < 0 ∧ e = .returned (.tuple #[.slice none 0 0, .slice none 0 0, .int .i64 14])))

set_option maxRecDepth 100000 in
set_option maxHeartbeats 3200000 in
theorem all_any (p : Nat) (first : Int) (F : Nat → Prop) (x : Rp) (w : World) (h : GP w p F x) (hfi : -9223372036854775808 ≤ first ∧ first ≤ 9223372036854775807) :
    Calls Tryd.prog 31 #[.pointer (some ⟨p, 0, none⟩), .int .i64 first] w fun e w' => AllOut w w' p F x first e := by
  obtain ⟨a0, ha0⟩ : ∃ a0, w.heap.size = a0 := ⟨_, rfl⟩
  obtain ⟨W2, hW2⟩ : ∃ W, (w.alloc (.cells #[.slice none 0 0] 39)).alloc (.cells #[.slice none 0 0] 29) = W := ⟨_, rfl⟩
  have hg2 : Grew w W2 := hW2 ▸ ((Chg.refl _ _).alloc _).alloc _
  have hb1 : Blk W2 a0 39 #[.slice none 0 0] := by subst hW2 ha0; exact (Blk.new _ _ _).alloc _
  have hb2 : Blk W2 (a0 + 1) 29 #[.slice none 0 0] := by
    subst hW2 ha0
    have := Blk.new (w.alloc (.cells #[.slice none 0 0] 39)) 29 #[.slice none 0 0]
    simpa using this
  have hz2 : W2.heap.size = a0 + 2 := by subst hW2 ha0; simp
  have H := Lib.hid (And.intro h (And.intro hg2 (And.intro hb1 (And.intro hb2 (And.intro hz2 (And.intro hW2 ha0))))))
  clear h hg2 hb1 hb2 hz2
  by_cases hneg : first < 0
  · have t1 : decide (first < 0) = true := decide_eq_true hneg
    obtain ⟨c1, f1, s1⟩ := H.out.2.2.1.facts
    obtain ⟨c2, f2, s2⟩ := H.out.2.2.2.1.facts
    have HN := Lib.hid hneg
    clear hneg
    go_enter Tryd.func31, Tryd.ntmps31
    go_wp2_with (first | (rw [hW2]) | (rw [ha0]))
    have hc : Chg (fun j => j = a0 ∨ j = a0 + 1) W2 ((W2.setCell ⟨a0, 0, none⟩ (.slice none 0 0)).setCell ⟨a0 + 1, 0, none⟩ (.slice none 0 0)) := ((Chg.refl (fun j => j = a0 ∨ j = a0 + 1) _).setCell (p := ⟨a0, 0, none⟩) (fun _ => .inl rfl) _).setCell (p := ⟨a0 + 1, 0, none⟩) (fun _ => .inr rfl) _
    have hlt := H.out.1.lt
    have hz := tab_pos H.out.1.tab
    have he := H.out.2.2.2.2.2.2
    refine bodyPost_ret (v := .tuple #[.slice none 0 0, .slice none 0 0, .int .i64 14]) (by simp [results, Tryd.results31, go_sem, c1, f1, s1, c2, f2, s2]) rfl ⟨(H.out.1.grew H.out.2.1).chg hc (fun j hj e => by have := hlt j hj; omega) (by omega), Chg.trans H.out.2.1.chg hc fun j hj e => by omega, .inr (.inr ⟨HN.out, rfl⟩)⟩
  · have t1 : decide (first < 0) = false := decide_eq_false hneg
    have hJ0 : AllJ w W2 a0 p F x [] [] (.slice none 0 0) (.slice none 0 0) := by
      have hlt := H.out.1.lt
      have hz := tab_pos H.out.1.tab
      exact ⟨H.out.1.grew H.out.2.1, H.out.2.1.chg, H.out.2.2.1, H.out.2.2.2.1, World.ownsRow_nil _ _ _ _, World.ownsRow_nil _ _ _ _, ha0, fun j hj => by have := hlt j hj; omega, by have := H.out.2.2.2.2.1; omega, by omega⟩
    have hwalk := walk_any p 55 first F x #[.pointer (some ⟨a0, 0, none⟩), .pointer (some ⟨a0 + 1, 0, none⟩)] (fun l ps W => ∃ v1 v2, AllJ w W a0 p F x l ps v1 v2) (fun _ _ _ => False) W2
      (enters_of Tryd.func55 (by kernel_rfl) rfl)
      (fun l ps W ⟨v1, v2, hJ⟩ => hJ.gp) (fun l ps W W' ⟨v1, v2, hJ⟩ hc hg => ⟨v1, v2, hJ.far (by rw [H.out.2.2.2.2.1] at hc; exact hc) hg⟩)
      (fun l ps i P g c W0 W nx ⟨v1, v2, hJ⟩ hW0 hc hg hwk hs hbg hF hPc => by
        have hJ2 := hJ.far (by rw [H.out.2.2.2.2.1] at hc; exact hc) hg
        have hnd := hwk.nd
        have hln := hwk.len
        have h4 := hg.szs
        have hls : lenSum (ps ++ [P]) = lenSum ps + P.length := by unfold lenSum; simp [List.sum_append]
        have hP1 : 1 ≤ P.length := by
          generalize hq : ps ++ [P] = ps' at hwk
          generalize hq2 : l ++ [i] = l' at hwk
          cases hwk with
          | nil => simp at hq
          | snoc h1 h2 h3 h4 h5 h6 =>
            have := List.append_inj_right' hq (by simp)
            injection this with this
            rw [this]
            exact (decP_some h4).2.2.1
        obtain ⟨bg, og, eg, hgs, -⟩ := hs.2 (by omega)
        have eg' : g = bg := by injection eg with eg; injection eg
        simp only [List.length_append, List.length_singleton] at hln
        have hzz := H.out.2.2.2.2.1
        refine (allyield_any a0 p i g c F x l ps P v1 v2 w W hJ2 (by omega) (by have := hnd.2.2.1; omega) ⟨hP1, by have := hnd.2.2.1; omega⟩ hs (fun e => by have := (hJ.r1.lt g e).2; omega) (by omega)).mono ?_
        rintro e W' ⟨rfl, hcc, v1', v2', hJ'⟩
        exact ⟨by rw [hzz]; exact hcc, .inl ⟨rfl, v1', v2', hJ'⟩⟩)
      ⟨_, _, hJ0⟩ (fun j hj => by have := H.out.1.lt j hj; have := H.out.2.2.2.2.1; omega) hfi
    have HWk := Lib.hid hwalk
    have HN := Lib.hid hneg
    clear hneg hwalk hJ0
    go_enter Tryd.func31, Tryd.ntmps31
    go_wp2_with (first | (rw [hW2]) | (rw [ha0]))
    refine HWk.out.mono ?_
    rintro e w3 ⟨l, ps, (⟨i, hwk, ⟨v1, v2, hJ⟩, (⟨hi, rfl⟩ | ⟨hi, hwr, rfl⟩)⟩ | ⟨hf, -⟩)⟩
    · obtain ⟨A1, k1, rfl, -⟩ := own_shape hJ.r1
      obtain ⟨A2, k2, rfl, -⟩ := own_shape hJ.r2
      have HJ := Lib.hid (And.intro hJ (And.intro hwk hi))
      have hS : w3.drew.cell? ⟨a0, 0, none⟩ = some (.slice A1 l.length k1) ∧ w3.drew.cell? ⟨a0 + 1, 0, none⟩ = some (.slice A2 (lenSum ps) k2) := ⟨(hJ.b1.drew).cell 0, (hJ.b2.drew).cell 0⟩
      have f1 := hJ.b1.frozen 0
      have f2 := hJ.b2.frozen 0
      have s1 := hJ.b1.lt
      have s2 := hJ.b2.lt
      clear hJ hwk hi
      go_wp2_with fail
      have hB1 := (HJ.out.1.b1.drew).put 0 (.slice A1 l.length k1)
      have hB2 := (HJ.out.1.b2.drew).far (p := ⟨a0, 0, none⟩) (by simp) (.slice A1 l.length k1)
      have hB3 := hB1.far (p := ⟨a0 + 1, 0, none⟩) (by simp) (.slice A2 (lenSum ps) k2)
      have hB4 := hB2.put 0 (.slice A2 (lenSum ps) k2)
      refine wp_region_held_drew (S := fun w' => w'.cell? ⟨a0, 0, none⟩ = some (.slice A1 l.length k1) ∧ w'.cell? ⟨a0 + 1, 0, none⟩ = some (.slice A2 (lenSum ps) k2)) (by kernel_rfl) hS (fun hHeld => ?_)
      refine wpAnyH_take (i := 0) (v := ?_) rfl (by kernel_rfl) (by kernel_rfl) (by kernel_rfl) (fun _ _ _ h => h) (Or.inl ⟨by rfl, ?_⟩) hHeld ?_
      rotate_left
      · (intro w hSw; (try dsimp only at hSw); go_simp) <;> with_reducible rfl
      (try simp only [Act.put, List.setIfInBounds_toArray, List.set_cons_zero, List.set_cons_succ, List.getElem_toArray, List.getElem_cons_zero, List.getElem_cons_succ])
      refine wpAnyH_take (i := 1) (v := ?_) rfl (by kernel_rfl) (by kernel_rfl) (by kernel_rfl) (fun _ _ _ h => h) (Or.inl ⟨by rfl, ?_⟩) hHeld ?_
      rotate_left
      · (intro w hSw; (try dsimp only at hSw); go_simp) <;> with_reducible rfl
      (try simp only [Act.put, List.setIfInBounds_toArray, List.set_cons_zero, List.set_cons_succ, List.getElem_toArray, List.getElem_cons_zero, List.getElem_cons_succ])
      refine wpAnyH_ready (rs := [2]) (by kernel_rfl) (by simp) ?_
      refine AllReadyH.cons rfl (fun K hK => ?_) AllReadyH.nil
      go_simp
      refine hK.out _ _ ⟨hB1.cell 0, hB2.cell 0⟩ (fun _ => ?_)
      clear hK K
      (try simp only [Act.put, List.setIfInBounds_toArray, List.set_cons_zero, List.set_cons_succ, List.getElem_toArray, List.getElem_cons_zero, List.getElem_cons_succ])
      refine wpAnyH_ready (rs := [3]) (by kernel_rfl) (by simp) ?_
      refine AllReadyH.cons rfl (fun K hK => ?_) AllReadyH.nil
      go_simp
      refine hK.out _ _ ⟨hB3.cell 0, hB4.cell 0⟩ (fun _ => ?_)
      clear hK K
      (try simp only [Act.put, List.setIfInBounds_toArray, List.set_cons_zero, List.set_cons_succ, List.getElem_toArray, List.getElem_cons_zero, List.getElem_cons_succ])
      refine wpAnyH_ready (rs := [4]) (by kernel_rfl) (by simp) ?_
      refine AllReadyH.cons rfl (fun K hK => ?_) AllReadyH.nil
      go_simp
      refine hK.out _ _ ⟨hB3.cell 0, hB4.cell 0⟩ (fun _ => ?_)
      clear hK K
      (try simp only [Act.put, List.setIfInBounds_toArray, List.set_cons_zero, List.set_cons_succ, List.getElem_toArray, List.getElem_cons_zero, List.getElem_cons_succ])
      refine wpAnyH_done (by kernel_rfl) ?_ _
      clear hHeld hS
      have hB5 := hB3.cell 0
      have hB6 := hB4.cell 0
      go_wp2_with fail
      have hc : Chg (fun j => j = a0 ∨ j = a0 + 1) w3 ((w3.drew.setCell ⟨a0, 0, none⟩ (.slice A1 l.length k1)).setCell ⟨a0 + 1, 0, none⟩ (.slice A2 (lenSum ps) k2)) := (((Chg.refl (fun j => j = a0 ∨ j = a0 + 1) _).drew).setCell (p := ⟨a0, 0, none⟩) (fun _ => .inl rfl) _).setCell (p := ⟨a0 + 1, 0, none⟩) (fun _ => .inr rfl) _
      have hlt := HJ.out.1.lt
      have hz := HJ.out.1.pos
      refine bodyPost_ret (v := .tuple #[.slice A1 l.length k1, .slice A2 (lenSum ps) k2, .int .i64 0]) (by simp [results, Tryd.results31, go_sem, f1, f2, s1, s2, HJ.out.1.b1.cell, HJ.out.1.b2.cell]) rfl ⟨HJ.out.1.gp.chg hc (fun j hj e => by have := hlt j hj; omega) (by omega), Chg.trans HJ.out.1.chg hc fun j hj e => by omega, .inl ⟨l, ps, i, A1, k1, A2, k2, HJ.out.2.1, HJ.out.2.2, rfl, ?_, ?_⟩⟩
      · exact own_base (own_chg HJ.out.1.r1 hc fun q hq e => by have := (HJ.out.1.r1.lt q hq).1; omega) (by omega)
      · exact own_base (own_chg HJ.out.1.r2 hc fun q hq e => by have := (HJ.out.1.r2.lt q hq).1; omega) (by omega)
    · have HJ := Lib.hid (And.intro hJ (And.intro hwk (And.intro hi hwr)))
      obtain ⟨c1, f1, s1⟩ := hJ.b1.facts
      obtain ⟨c2, f2, s2⟩ := hJ.b2.facts
      obtain ⟨er, her⟩ : ∃ er : Int, (if (∀ c, x.now[i.toNat]? = some c → c.used = false) ∧ i = first then (14 : Int) else 22) = er := ⟨_, rfl⟩
      rw [her]
      have HE := Lib.hid her
      have hne : (er != 0) = true := by rw [← her]; split <;> rfl
      clear hJ hwk hi hwr her
      go_wp2_with fail
      have hc : Chg (fun j => j = a0 ∨ j = a0 + 1) w3 ((w3.setCell ⟨a0, 0, none⟩ (.slice none 0 0)).setCell ⟨a0 + 1, 0, none⟩ (.slice none 0 0)) := ((Chg.refl (fun j => j = a0 ∨ j = a0 + 1) _).setCell (p := ⟨a0, 0, none⟩) (fun _ => .inl rfl) _).setCell (p := ⟨a0 + 1, 0, none⟩) (fun _ => .inr rfl) _
      have hlt := HJ.out.1.lt
      have hz := HJ.out.1.pos
      refine bodyPost_ret (v := .tuple #[.slice none 0 0, .slice none 0 0, .int .i64 er]) (by simp [results, Tryd.results31, go_sem, c1, f1, s1, c2, f2, s2]) rfl ⟨HJ.out.1.gp.chg hc (fun j hj e => by have := hlt j hj; omega) (by omega), Chg.trans HJ.out.1.chg hc fun j hj e => by omega, .inr (.inl ⟨l, ps, i, HJ.out.2.1, HJ.out.2.2.1, HJ.out.2.2.2, by rw [HE.out]⟩)⟩
    · exact hf.elim

end Go.Proofs.YtjlfnebkibgfmaaDoor

/- The chain: a record that stands is told: Get, Pages. -/
namespace Go.Proofs.YtjlfnebkibgfmaaDoor
open Go.RowKit Go.Maps

theorem part_take (n : Nat) (bs : List Int) : ∀ k, ((List.range k).map (part n bs)).flatten = bs.take (k * n)
  | 0 => by simp
  | k + 1 => by
    rw [List.range_succ, List.map_append, List.flatten_append, part_take n bs k]
    simp only [List.map_cons, List.map_nil, List.flatten_cons, List.flatten_nil, List.append_nil, part]
    rw [Nat.add_mul, Nat.one_mul, List.take_add]
theorem lenSum_flatten (ps : List (List Int)) : lenSum ps = ps.flatten.length := by unfold lenSum; rw [List.length_flatten]
/-- What may be at a record's k-th page. -/
theorem Stands.page {x : Rp} {l : List Nat} {bs : List Int} (h : Stands x l bs) (hz : 64 ≤ x.sz ∧ x.sz ≤ 4096 ∧ x.now.length ≤ 4096) (hb : 1 ≤ bs.length) {k i : Nat} (hk : l[k]? = some i) :
    ∃ c, x.now[i]? = some c ∧ c.used = true ∧ decP (c.bytes x.sz) x.sz = some (part (x.sz - 5) bs k, nextOf l k) := by
  obtain ⟨c, h1, h2, h3⟩ := h.at_ k i hk
  refine ⟨c, h1, h2, ?_⟩
  rw [h3]
  have hkl : k < l.length := (List.getElem?_eq_some_iff.1 hk).1
  have hn : 1 ≤ x.sz - 5 := by omega
  have hlt := (parts_lt hb hn k).2 (h.len ▸ hkl)
  have hpl := part_len (x.sz - 5) bs k
  refine decP_pgL ?_ ?_ (fun h0 => ?_) ?_ hz.2.1
  · rw [hpl]; omega
  · rw [hpl]; omega
  · have hk1 : k + 1 < l.length := by
      by_cases e : k + 1 < l.length
      · exact e
      · unfold nextOf at h0; rw [List.getElem?_eq_none (by omega)] at h0; simp at h0
    have := (parts_lt hb hn (k + 1)).2 (h.len ▸ hk1)
    rw [Nat.add_mul, Nat.one_mul] at this
    rw [hpl]; omega
  · unfold nextOf
    cases hq : l[k + 1]? with
    | none => simp
    | some j =>
      obtain ⟨c', h1', -⟩ := h.at_ (k + 1) j hq
      have := (List.getElem?_eq_some_iff.1 h1').1
      show j + 1 ≤ 65535
      omega
theorem Stands.wk {x : Rp} {l : List Nat} {bs : List Int} (h : Stands x l bs) (hz : 64 ≤ x.sz ∧ x.sz ≤ 4096 ∧ x.now.length ≤ 4096) (hb : 1 ≤ bs.length) {i0 : Nat} (h0 : l[0]? = some i0) {l' : List Nat} {ps : List (List Int)} {i : Int} (hw : Wk x i0 l' ps i) :
    ∃ k, k ≤ l.length ∧ l' = l.take k ∧ ps = (List.range k).map (part (x.sz - 5) bs) ∧ i = match l[k]? with | some j => ((j : Nat) : Int) | none => -1 := by
  induction hw with
  | nil => exact ⟨0, Nat.zero_le _, by simp, by simp, by rw [h0]⟩
  | @snoc l' ps i c P nx h1 h2 h3 h4 h5 h6 ih =>
    obtain ⟨k, k1, k2, k3, k4⟩ := ih
    cases hk : l[k]? with
    | none => rw [hk] at k4; dsimp only at k4; omega
    | some j =>
      rw [hk] at k4
      have hij : i = j := by dsimp only at k4; omega
      subst hij
      obtain ⟨c', c1, c2, c3⟩ := h.page hz hb hk
      rw [h2] at c1
      cases c1
      rw [h4] at c3
      injection c3 with c3
      injection c3 with c3 c4
      have hkl : k < l.length := (List.getElem?_eq_some_iff.1 hk).1
      refine ⟨k + 1, hkl, ?_, ?_, ?_⟩
      · rw [List.take_add_one, hk, k2]; rfl
      · rw [List.range_succ, List.map_append, k3, c3]; rfl
      · rw [c4]
        unfold nextOf
        cases l[k + 1]? with
        | none => simp
        | some j => simp
theorem Stands.end_ {x : Rp} {l : List Nat} {bs : List Int} (h : Stands x l bs) (hz : 64 ≤ x.sz ∧ x.sz ≤ 4096 ∧ x.now.length ≤ 4096) (hb : 1 ≤ bs.length) (hb2 : bs.length ≤ 16384) {i0 : Nat} (h0 : l[0]? = some i0) {l' : List Nat} {ps : List (List Int)} {i : Int} (hw : Wk x i0 l' ps i) :
    (i < 0 → l' = l ∧ ps.flatten = bs) ∧ (0 ≤ i → ¬ Wrong x l' ps i.toNat) := by
  obtain ⟨k, k1, k2, k3, k4⟩ := h.wk hz hb h0 hw
  have hn : 1 ≤ x.sz - 5 := by omega
  constructor
  · intro hi
    have hk : k = l.length := by
      cases hk : l[k]? with
      | none => rw [List.getElem?_eq_none_iff] at hk; omega
      | some j => rw [hk] at k4; have k5 : i = ((j : Nat) : Int) := k4; omega
    subst hk
    refine ⟨by rw [k2, List.take_length], ?_⟩
    rw [k3, part_take]
    refine List.take_of_length_le ?_
    have := (parts_lt hb hn l.length)
    rw [h.len] at this ⊢
    omega
  · intro hi hwr
    cases hk : l[k]? with
    | none => rw [hk] at k4; dsimp only at k4; omega
    | some j =>
      rw [hk] at k4
      have hij : i.toNat = j := by dsimp only at k4; omega
      rw [hij] at hwr
      obtain ⟨c, c1, c2, c3⟩ := h.page hz hb hk
      rcases hwr with e | ⟨c', e1, e2, e3 | ⟨P, nx, e3, e4 | e4⟩⟩
      · have := e c c1; rw [c2] at this; cases this
      · rw [c1] at e1; cases e1; rw [c3] at e3; cases e3
      · rw [k2] at e4
        obtain ⟨q, hq, e⟩ := List.mem_iff_getElem.1 e4
        rw [List.getElem_take] at e
        have hkl := List.getElem?_eq_some_iff.1 hk
        obtain ⟨hkl1, hkl2⟩ := hkl
        rw [List.length_take] at hq
        have h9 : l[q]? = l[k]? := by rw [List.getElem?_eq_getElem (show q < l.length by omega), hk, e]
        have := (List.getElem?_inj (by omega) h.nd).1 h9
        omega
      · rw [c1] at e1
        cases e1
        rw [c3] at e3
        cases e3
        have hsum : lenSum (ps ++ [part (x.sz - 5) bs k]) ≤ bs.length := by
          rw [lenSum_flatten, k3, show (List.range k).map (part (x.sz - 5) bs) ++ [part (x.sz - 5) bs k] = (List.range (k + 1)).map (part (x.sz - 5) bs) from by rw [List.range_succ, List.map_append]; rfl, part_take, List.length_take]
          omega
        have : lenSum (ps ++ [part (x.sz - 5) bs k]) = lenSum ps + (part (x.sz - 5) bs k).length := by unfold lenSum; simp [List.sum_append]
        omega

section
variable (p : Nat) (F : Nat → Prop) (x : Rp) (w : World)
theorem all_stands (l : List Nat) (bs : List Int) (i0 : Nat) (h : GP w p F x) (hs : Stands x l bs) (hb : 1 ≤ bs.length) (hb2 : bs.length ≤ 16384) (h0 : l[0]? = some i0) :
    Calls Tryd.prog 31 #[.pointer (some ⟨p, 0, none⟩), .int .i64 i0] w fun e w' => GP w' p F x ∧ Chg F w w' ∧ ∃ A1 c1 A2 c2, e = .returned (.tuple #[.slice A1 l.length c1, .slice A2 bs.length c2, .int .i64 0]) ∧
      w'.ownsRow w.heap.size 3 1 (.slice A1 l.length c1) l.length (nv l) ∧ w'.ownsRow w.heap.size 5 1 (.slice A2 bs.length c2) bs.length (bv bs) := by
  have hz := h.szs
  have hz' : 64 ≤ x.sz ∧ x.sz ≤ 4096 ∧ x.now.length ≤ 4096 := ⟨hz.2.2.1, hz.2.2.2.1, hz.2.2.2.2.2⟩
  have hi4 : i0 < 4096 := by
    obtain ⟨c, h1, -⟩ := hs.at_ 0 i0 h0
    have := (List.getElem?_eq_some_iff.1 h1).1
    omega
  refine (all_any p i0 F x w h (by omega)).mono ?_
  rintro e w' ⟨h1, h2, ⟨l', ps, i, A1, c1, A2, c2, hw, hi, rfl, h3, h4⟩ | ⟨l', ps, i, hw, hi, hwr, -⟩ | ⟨hneg, -⟩⟩
  · obtain ⟨rfl, rfl⟩ := (hs.end_ hz' hb hb2 h0 hw).1 hi
    rw [lenSum_flatten] at h4
    exact ⟨h1, h2, A1, c1, A2, c2, by rw [lenSum_flatten], h3, h4⟩
  · exact absurd hwr ((hs.end_ hz' hb hb2 h0 hw).2 hi)
  · omega
theorem cget_stands (l : List Nat) (bs : List Int) (i0 : Nat) (h : GP w p F x) (hs : Stands x l bs) (hb : 1 ≤ bs.length) (hb2 : bs.length ≤ 16384) (h0 : l[0]? = some i0) :
    Calls Tryd.prog 11 #[.pointer (some ⟨p, 0, none⟩), .int .i64 i0] w fun e w' => GP w' p F x ∧ Chg F w w' ∧ ∃ A2 c2, e = .returned (.tuple #[.slice A2 bs.length c2, .int .i64 0]) ∧ w'.ownsRow w.heap.size 5 1 (.slice A2 bs.length c2) bs.length (bv bs) := by
  have H := Lib.hid (all_stands p F x w l bs i0 h hs hb hb2 h0)
  clear h hs hb hb2 h0
  go_enter Tryd.func11, Tryd.ntmps11
  go_wp2_with fail
  refine H.out.mono ?_
  rintro e w1 ⟨h1, h2, A1, c1, A2, c2, rfl, h3, h4⟩
  have HO := Lib.hid (And.intro h1 (And.intro h2 h4))
  clear h1 h2 h3 h4
  go_wp2_with fail
  go_ret2
  exact ⟨HO.out.1, HO.out.2.1, A2, c2, rfl, HO.out.2.2⟩
end

end Go.Proofs.YtjlfnebkibgfmaaDoor
