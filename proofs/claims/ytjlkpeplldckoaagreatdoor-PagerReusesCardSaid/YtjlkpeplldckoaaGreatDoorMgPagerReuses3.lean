/- Texts 3 of 4 that the proof of PagerReuses stands on. -/
import Derived.Test.YtjlkpeplldckoaaGreatDoorMgPagerReuses2
import Derived.Maps.OwnIn
import Derived.Deep.LoopGhost
import Derived.Test.YtjlkpeplldckoaaGreatDoorRows
import Derived.Shelf.Sort.Plain
import Derived.Sort.LoopGhostIn
import Derived.Lib.SortBridge
import Derived.Laws.OwnMore
import Derived.OrdersHeld
import Derived.Deep.RegionHeld
set_option linter.unusedSimpArgs false
set_option linter.unusedVariables false

/- A new disk. -/
namespace Go.Proofs.YtjlkpeplldckoaaGreatDoor
open Go.RowKit Go.Maps

theorem make_bytes (n : Nat) (w : World) (hn : n ≤ 1000000) : ∃ w', (Instr.makeSlice 38 (.int .i64 n) (.int .i64 n)).run Tryz.prog w = .ok (.slice (some ⟨w.heap.size, 0, none⟩) n n) w' ∧ w'.ownsRow w.heap.size 5 1 (.slice (some ⟨w.heap.size, 0, none⟩) n n) n (bv (List.replicate n 0)) ∧ Grew w w' ∧ w'.heap.size = w.heap.size + 1 := by
  obtain ⟨i0, hi0, hz0, hz1, hz2⟩ := info_parts u8Info
  have hr := run_makeSlice (P := Tryz.prog) w 38 5 i0 (.int .u8 0) Tryz.underlying38 hi0 hz0 .i64 .i64 n n (by omega) (by omega) (by rw [hz1]; simp; omega) (by rw [hz2]; omega) (by omega)
  obtain ⟨w3, hr3, hown3, hg3⟩ := run_make_full (P := Tryz.prog) w w.heap.size 38 5 i0 (.int .u8 0) 1 Tryz.underlying38 hi0 hz0 hz1 .i64 .i64 n (by rw [hz2]; omega) (by simp only [maxLen]; omega) (Nat.le_refl _)
  rw [hr3] at hr
  injection hr with hr1 hr2
  refine ⟨w3, hr3, ?_, (Chg.refl NoF w).grown hg3 (fun j hj _ => by cases hj), by rw [hr2]; simp⟩
  have := hown3
  rw [show (Value.int .u8 0).cells = #[.int .u8 0] from rfl, Nat.mul_one, toList_madeCells_one] at this
  simpa [bv] using this

theorem rowInfo : (Tryz.prog.info? 38).map (fun i => (i.zero, i.size, i.bytes)) = some (some (.slice none 0 0), 1, 24) := by kernel_rfl

/-- A disk of k sectors, on the way. -/
structure NewJ (w wr : World) (d sz k : Nat) (A : Option Addr) (c M : Nat) (vs : List Value) : Prop where
  blk : Blk wr d 46 #[.int .i64 sz, .slice A k c, .map (some M), .bool false, .int .i64 0, .bool false, .int .i64 0]
  row : wr.ownsRow w.heap.size 38 1 (.slice A k c) k vs
  map : IMap Tryz.prog 3 wr M (fun _ => none) 0
  dat : ∀ i, i < k → ∃ v, vs[i]? = some v ∧ BRow wr (fun j => w.heap.size ≤ j ∧ j < wr.heap.size) v (List.replicate sz 0)
  grew : Grew w wr
  new : w.heap.size ≤ d ∧ w.heap.size ≤ M ∧ M < wr.heap.size

theorem NewJ.more {w wr w3 W4 w5 w6 : World} {d sz k c M g cap : Nat} {A : Option Addr} {vs : List Value} (h : NewJ w wr d sz k A c M vs) (hm : w3.ownsRow wr.heap.size 5 1 (.slice (some ⟨wr.heap.size, 0, none⟩) sz sz) sz (bv (List.replicate sz 0))) (hg3 : Grew wr w3) (hg34 : Grew w3 W4) (hg4 : Grew wr W4)
    (ho : w5.ownsRow w.heap.size 38 1 (.slice (some ⟨g, 0, none⟩) (k + 1) cap) (k + 1) (vs ++ [.slice (some ⟨wr.heap.size, 0, none⟩) sz sz])) (hg5 : W4.grownBy w5 (Value.slice A k c).ownBlock) (hne : d ≠ g ∧ ∀ j, (Value.slice A k c).ownBlock = some j → j ≠ d)
    (hW : w5.setCell ⟨d, 1, none⟩ (.slice (some ⟨g, 0, none⟩) (k + 1) cap) = w6) : NewJ w w6 d sz (k + 1) (some ⟨g, 0, none⟩) cap M (vs ++ [.slice (some ⟨wr.heap.size, 0, none⟩) sz sz]) := by
  have hc56 : Chg (fun j => j = d) w5 w6 := hW ▸ (Chg.refl (fun j => j = d) w5).setCell (p := ⟨d, 1, none⟩) (fun _ => rfl) _
  have hc4 : Chg (fun j => some j = (Value.slice A k c).ownBlock ∨ j = d) W4 w6 := Chg.trans ((Chg.refl (fun j => some j = (Value.slice A k c).ownBlock ∨ j = d) W4).grown hg5 fun j hj _ => .inl hj.symm) hc56 fun j _ e => .inr e
  have hc : Chg (fun j => some j = (Value.slice A k c).ownBlock ∨ j = d) wr w6 := hg4.then hc4
  have hnB : ∀ {u : World}, Grew wr u → ∀ j, (some j = (Value.slice A k c).ownBlock ∨ j = d) → NotB u j := fun hg j hj => by
    rcases hj with e | rfl
    · exact own_notB (own_grew h.row hg) (by decide) e.symm
    · exact (h.blk.grew hg).notB (by decide)
  have hb5 : Blk w5 d 46 #[.int .i64 sz, .slice A k c, .map (some M), .bool false, .int .i64 0, .bool false, .int .i64 0] := (h.blk.grew hg4).grown hg5 (fun e => hne.2 _ e.symm rfl)
  have hsz := h.grew.size
  have hszc := hc.size
  have hvl : vs.length = k := by have := h.row.1; simpa using this
  refine ⟨?_, ?_, h.map.chg hc ?_, fun i hi => ?_, ?_, h.new.1, h.new.2.1, Nat.lt_of_lt_of_le h.new.2.2 hszc⟩
  · subst hW
    have := hb5.put 1 (.slice (some ⟨g, 0, none⟩) (k + 1) cap)
    simpa using this
  · exact own_chg ho hc56 fun j hj e => by simp [Value.ownBlock] at hj; omega
  · rintro (e | e)
    · rcases h.row.2 with ⟨e1, _⟩ | ⟨g', cp, cr, e1, _, hb, _⟩
      · rw [e1] at e; simp [Value.ownBlock] at e
      · have : M = g' := by rw [e1] at e; simpa [Value.ownBlock] using e
        subst this
        obtain ⟨E, ⟨es, cl, hm', -⟩, -⟩ := h.map
        rw [hb] at hm'
        cases hm'
    · exact imap_ne h.map h.blk e
  · by_cases hik : i < k
    · obtain ⟨v, h1, h2⟩ := h.dat i hik
      exact ⟨v, by rw [List.getElem?_append_left (by omega)]; exact h1, (h2.past hc (hnB (Chg.refl _ _))).mono fun j hj => ⟨hj.1, by omega⟩⟩
    · obtain rfl : i = k := by omega
      refine ⟨.slice (some ⟨wr.heap.size, 0, none⟩) sz sz, by rw [List.getElem?_append_right (by omega), hvl]; simp, ?_, fun j hj => ?_⟩
      · have h3 : BRow w3 (fun _ => True) (.slice (some ⟨wr.heap.size, 0, none⟩) sz sz) (List.replicate sz 0) := ⟨by have := own_base hm (Nat.zero_le _); simpa using this, fun _ _ => trivial⟩
        exact (h3.past (hg34.then hc4) (hnB hg3)).1
      · have : j = wr.heap.size := by simp [Value.ownBlock] at hj; omega
        subst this
        have := (hm.lt wr.heap.size rfl).2
        have := hg34.size
        have := hc4.size
        exact ⟨hsz, by omega⟩
  · refine Chg.mono (h.grew.then hc) fun i hi e => ?_
    rcases e with e | e
    · have := (h.row.lt i e.symm).1; omega
    · have := h.new.1; omega

set_option maxRecDepth 100000 in
set_option maxHeartbeats 3200000 in
theorem dnew_any (n sz : Nat) (w : World) (h1 : 1 ≤ n) (h2 : n ≤ 4096) (h3 : 16 ≤ sz) (h4 : sz ≤ 4096) :
    Calls Tryz.prog 6 #[.int .i64 n, .int .i64 sz] w fun e w' => ∃ d F, e = .returned (.pointer (some ⟨d, 0, none⟩)) ∧ DS w' d F ⟨n, sz, fun _ => List.replicate sz 0, fun _ => none, false, 0, false, 0⟩ ∧ Grew w w' ∧ ∀ j, F j → w.heap.size ≤ j := by
  obtain ⟨i0, hi0, hz0, hz1, hz2⟩ := info_parts rowInfo
  have qm : ∀ u : World, (Instr.makeMap 43 none).run Tryz.prog u = .ok (.map (some u.heap.size)) (u.alloc (.map #[] 0)) := fun u => run_makeMap _ u
  have a1 : decide ((n : Int) < 1) = false := decide_eq_false (by omega)
  have a2 : decide ((4096 : Int) < n) = false := decide_eq_false (by omega)
  have a3 : decide ((sz : Int) < 16) = false := decide_eq_false (by omega)
  have a4 : decide ((4096 : Int) < sz) = false := decide_eq_false (by omega)
  obtain ⟨d, hd⟩ : ∃ d, w.heap.size + 1 = d := ⟨_, rfl⟩
  obtain ⟨W1, hW1⟩ : ∃ W1, (w.alloc (.map #[] 0)).alloc (.cells #[.int .i64 sz, .slice none 0 0, .map (some w.heap.size), .bool false, .int .i64 0, .bool false, .int .i64 0] 46) = W1 := ⟨_, rfl⟩
  have HJ0 := Lib.hid (show NewJ w W1 d sz 0 none 0 w.heap.size [] from hW1 ▸ hd ▸ ⟨by have := Blk.new (w.alloc (.map #[] 0)) 46 #[.int .i64 sz, .slice none 0 0, .map (some w.heap.size), .bool false, .int .i64 0, .bool false, .int .i64 0]; simpa using this, World.ownsRow_nil _ _ _ _, (IMap.made _ _ _).grew ((Chg.refl _ _).alloc _), fun i hi => by omega, ((Chg.refl _ _).alloc _).alloc _, by simp; omega⟩)
  have HW := Lib.hid (And.intro hW1 hd)
  clear hW1 hd
  go_enter Tryz.func6, Tryz.ntmps6
  go_wp2
  rw [HW.out.1, HW.out.2]
  go_loopw [25] (fun i wr => ∃ (k : Nat) (A : Option Addr) (c M : Nat) (vs : List Value), k ≤ n ∧ i = .int .i64 k ∧ NewJ w wr d sz k A c M vs) (fun i _ => n - (intOf i).toNat)
  case atStart => exact ⟨0, none, 0, _, [], Nat.zero_le _, rfl, HJ0.out⟩
  case round =>
    obtain ⟨k, A, c, M, vs, hk, rfl, hJ⟩ := hrel
    have HN := Lib.hid hJ
    obtain ⟨c0, f0, s0⟩ := hJ.blk.facts
    clear hJ
    by_cases hlt : k < n
    · have hvl : vs.length = k := by have := HN.out.row.1; simpa using this
      go_wp2
      obtain ⟨w3, hr3, ho3, hg3, hz3⟩ := make_bytes sz wr.drew (by omega)
      have HM := Lib.hid (And.intro ho3 (show Grew wr w3 from Grew.trans ((Chg.refl NoF wr).drew) hg3))
      have hz3' : w3.heap.size = wr.heap.size + 1 := by simpa using hz3
      have hr3' : (Instr.makeSlice 38 (.int .i64 sz) (.int .i64 sz)).run Tryz.prog wr.drew = .ok (.slice (some ⟨wr.heap.size, 0, none⟩) sz sz) w3 := by simpa using hr3
      have hnc : (w3.alloc (.cells #[.slice (some ⟨wr.heap.size, 0, none⟩) sz sz] 38)).cell? ⟨wr.heap.size + 1, 0 + 0, none⟩ = some (.slice (some ⟨wr.heap.size, 0, none⟩) sz sz) := by rw [← hz3']; exact ((Blk.new w3 38 #[.slice (some ⟨wr.heap.size, 0, none⟩) sz sz]).cell 0).trans rfl
      have HG34 := Lib.hid (show Grew wr (w3.alloc (.cells #[.slice (some ⟨wr.heap.size, 0, none⟩) sz sz] 38)) from HM.out.2.alloc _)
      have HS34 := Lib.hid (show Grew w3 (w3.alloc (.cells #[.slice (some ⟨wr.heap.size, 0, none⟩) sz sz] 38)) from (Chg.refl _ _).alloc _)
      have HOw := Lib.hid (own_grew HN.out.row HG34.out)
      have c01 := c0 1
      simp only [List.getElem?_toArray, List.getElem?_cons_zero, List.getElem?_cons_succ] at c01
      have c31 := (HM.out.2.cell (p := ⟨d, 1, none⟩) s0 id).trans c01
      have s3 := Nat.lt_of_lt_of_le s0 HM.out.2.size
      clear ho3 hg3 hr3 hz3 c0 f0
      refine wp_region_held_drew (S := fun _ => True) (by kernel_rfl) trivial (fun _ => ?_)
      refine wpAnyH_take (i := 0) (v := ?_) rfl (by kernel_rfl) (by kernel_rfl) (by kernel_rfl) (fun _ _ _ h => h) (Or.inl ⟨by rfl, ?_⟩) trivial ?_
      rotate_left
      · (intro w hSw; (try dsimp only at hSw); go_simp) <;> with_reducible rfl
      (try simp only [Act.put, List.setIfInBounds_toArray, List.set_cons_zero, List.set_cons_succ])
      refine wpAnyH_take (i := 1) (v := ?_) rfl (by kernel_rfl) (by kernel_rfl) (by kernel_rfl) (fun _ _ _ h => h) (Or.inl ⟨by rfl, ?_⟩) trivial ?_
      rotate_left
      · (intro w hSw; (try dsimp only at hSw); go_simp) <;> with_reducible rfl
      (try simp only [Act.put, List.setIfInBounds_toArray, List.set_cons_zero, List.set_cons_succ])
      refine wpAnyH_take (i := 2) (v := ?_) rfl (by kernel_rfl) (by kernel_rfl) (by kernel_rfl) (fun _ _ _ h => h) (Or.inl ⟨by rfl, ?_⟩) trivial ?_
      rotate_left
      · (intro w hSw; (try dsimp only at hSw); go_simp) <;> with_reducible rfl
      (try simp only [Act.put, List.setIfInBounds_toArray, List.set_cons_zero, List.set_cons_succ])
      refine wpAnyH_take (i := 3) (v := ?_) rfl (by kernel_rfl) (by kernel_rfl) (by kernel_rfl) (fun _ _ _ h => h) (Or.inl ⟨by rfl, ?_⟩) trivial ?_
      rotate_left
      · (intro w hSw; (try dsimp only at hSw); go_simp) <;> with_reducible rfl
      (try simp only [Act.put, List.setIfInBounds_toArray, List.set_cons_zero, List.set_cons_succ])
      refine wpAnyH_take (i := 5) (v := ?_) rfl (by kernel_rfl) (by kernel_rfl) (by kernel_rfl) (fun _ _ _ h => h) (Or.inl ⟨by rfl, ?_⟩) trivial ?_
      rotate_left
      · (intro w hSw; (try dsimp only at hSw); go_simp) <;> with_reducible rfl
      (try simp only [Act.put, List.setIfInBounds_toArray, List.set_cons_zero, List.set_cons_succ])
      refine wpAnyH_ready (rs := [4, 6]) (by kernel_rfl) (by simp) ?_
      refine (AllReadyH.cons rfl (fun K hK => ?_) (AllReadyH.cons rfl (fun K hK => ?_) AllReadyH.nil))
      · go_simp
        refine hK.out _ _ trivial (fun _ => ?_)
        clear hK K
        (try simp only [Act.put, List.setIfInBounds_toArray, List.set_cons_zero, List.set_cons_succ])
        refine wpAnyH_ready (rs := [6]) (by kernel_rfl) (by simp) ?_
        refine (AllReadyH.cons rfl (fun K hK => ?_) AllReadyH.nil)
        · go_simp
          refine hK.out _ _ trivial (fun _ => ?_)
          clear hK K
          (try simp only [Act.put, List.setIfInBounds_toArray, List.set_cons_zero, List.set_cons_succ])
          refine wpAnyH_ready (rs := [7]) (by kernel_rfl) (by simp) ?_
          refine (AllReadyH.cons rfl (fun K hK => ?_) AllReadyH.nil)
          · go_simp
            refine hK.out _ _ trivial (fun _ => ?_)
            clear hK K
            (try simp only [Act.put, List.setIfInBounds_toArray, List.set_cons_zero, List.set_cons_succ])
            refine wpAnyH_ready (rs := [8]) (by kernel_rfl) (by simp) ?_
            refine (AllReadyH.cons rfl (fun K hK => ?_) AllReadyH.nil)
            · refine step_append_lies _ (by rfl) _ _ _ (by rfl) w.heap.size 38 i0 _ 1 24 Tryz.underlying44 hi0 hz0 hz1 hz2 rfl (by omega) (.slice A k c) k vs (by rfl) HOw.out ⟨wr.heap.size + 1, 0, none⟩ 1 1 [.slice (some ⟨wr.heap.size, 0, none⟩) sz sz] (by rfl) (by rfl) (by intro j u hu; cases j with | zero => rw [Addr.add_lit]; cases hu; exact hnc | succ j => simp at hu) (by simp [Value.oneCell']) (by omega) (by simp only [maxLen]; omega) (by omega) (by have := HN.out.grew.size; simp [hz3']; omega) (wr.heap.size + 1 + 1) (by simp [hz3']) ?_
              intro g cap w5 ho5 hg5 hlie hlt5
              have hne : d ≠ g ∧ ∀ j, (Value.slice A k c).ownBlock = some j → j ≠ d := by
                refine ⟨fun e => ?_, fun j hj e => own_blk_ne (own_grew HN.out.row HG34.out) (HN.out.blk.grew HG34.out) (by decide) (e ▸ hj)⟩
                rcases hlie with h | h
                · exact own_blk_ne (own_grew HN.out.row HG34.out) (HN.out.blk.grew HG34.out) (by decide) (e ▸ h)
                · have := HN.out.blk.lt; omega
              have HO5 := Lib.hid (And.intro ho5 (And.intro hg5 hne))
              have HB5 := Lib.hid (show Blk w5 d 46 #[.int .i64 sz, .slice A k c, .map (some M), .bool false, .int .i64 0, .bool false, .int .i64 0] from (HN.out.blk.grew HG34.out).grown hg5 (fun e => hne.2 _ e.symm rfl))
              have f5 := HB5.out.frozen 1
              have c5 := HB5.out.cell 1
              have s5 := HB5.out.lt
              clear ho5 hg5 hlie hne
              refine hK.out _ _ trivial (fun _ => ?_)
              clear hK K
              (try simp only [Act.put, List.setIfInBounds_toArray, List.set_cons_zero, List.set_cons_succ])
              refine wpAnyH_take (i := 9) (v := ?_) rfl (by kernel_rfl) (by kernel_rfl) (by kernel_rfl) (fun _ _ _ h => h) (Or.inl ⟨by rfl, ?_⟩) trivial ?_
              rotate_left
              · (intro w hSw; (try dsimp only at hSw); go_simp) <;> with_reducible rfl
              (try simp only [Act.put, List.setIfInBounds_toArray, List.set_cons_zero, List.set_cons_succ])
              refine wpAnyH_take (i := 10) (v := ?_) rfl (by kernel_rfl) (by kernel_rfl) (by kernel_rfl) (fun _ _ _ h => h) (Or.inl ⟨by rfl, ?_⟩) trivial ?_
              rotate_left
              · (intro w hSw; (try dsimp only at hSw); go_simp) <;> with_reducible rfl
              (try simp only [Act.put, List.setIfInBounds_toArray, List.set_cons_zero, List.set_cons_succ])
              refine wpAnyH_ready (rs := [11]) (by kernel_rfl) (by simp) ?_
              refine AllReadyH.cons rfl (fun K hK => ?_) AllReadyH.nil
              go_simp
              refine hK.out _ _ trivial (fun _ => ?_)
              clear hK K
              (try simp only [Act.put, List.setIfInBounds_toArray, List.set_cons_zero, List.set_cons_succ])
              refine wpAnyH_done (by kernel_rfl) ?_ _
              go_wp2
              exact ⟨⟨k + 1, _, cap, M, _, by omega, by simp, HN.out.more HM.out.1 HM.out.2 HS34.out HG34.out HO5.out.1 HO5.out.2.1 HO5.out.2.2 rfl⟩, by simp [intOf]; omega⟩
      · go_simp
        refine hK.out _ _ trivial (fun _ => ?_)
        clear hK K
        (try simp only [Act.put, List.setIfInBounds_toArray, List.set_cons_zero, List.set_cons_succ])
        refine wpAnyH_ready (rs := [4, 7]) (by kernel_rfl) (by simp) ?_
        refine (AllReadyH.cons rfl (fun K hK => ?_) (AllReadyH.cons rfl (fun K hK => ?_) AllReadyH.nil))
        · go_simp
          refine hK.out _ _ trivial (fun _ => ?_)
          clear hK K
          (try simp only [Act.put, List.setIfInBounds_toArray, List.set_cons_zero, List.set_cons_succ])
          refine wpAnyH_ready (rs := [7]) (by kernel_rfl) (by simp) ?_
          refine (AllReadyH.cons rfl (fun K hK => ?_) AllReadyH.nil)
          · go_simp
            refine hK.out _ _ trivial (fun _ => ?_)
            clear hK K
            (try simp only [Act.put, List.setIfInBounds_toArray, List.set_cons_zero, List.set_cons_succ])
            refine wpAnyH_ready (rs := [8]) (by kernel_rfl) (by simp) ?_
            refine (AllReadyH.cons rfl (fun K hK => ?_) AllReadyH.nil)
            · refine step_append_lies _ (by rfl) _ _ _ (by rfl) w.heap.size 38 i0 _ 1 24 Tryz.underlying44 hi0 hz0 hz1 hz2 rfl (by omega) (.slice A k c) k vs (by rfl) HOw.out ⟨wr.heap.size + 1, 0, none⟩ 1 1 [.slice (some ⟨wr.heap.size, 0, none⟩) sz sz] (by rfl) (by rfl) (by intro j u hu; cases j with | zero => rw [Addr.add_lit]; cases hu; exact hnc | succ j => simp at hu) (by simp [Value.oneCell']) (by omega) (by simp only [maxLen]; omega) (by omega) (by have := HN.out.grew.size; simp [hz3']; omega) (wr.heap.size + 1 + 1) (by simp [hz3']) ?_
              intro g cap w5 ho5 hg5 hlie hlt5
              have hne : d ≠ g ∧ ∀ j, (Value.slice A k c).ownBlock = some j → j ≠ d := by
                refine ⟨fun e => ?_, fun j hj e => own_blk_ne (own_grew HN.out.row HG34.out) (HN.out.blk.grew HG34.out) (by decide) (e ▸ hj)⟩
                rcases hlie with h | h
                · exact own_blk_ne (own_grew HN.out.row HG34.out) (HN.out.blk.grew HG34.out) (by decide) (e ▸ h)
                · have := HN.out.blk.lt; omega
              have HO5 := Lib.hid (And.intro ho5 (And.intro hg5 hne))
              have HB5 := Lib.hid (show Blk w5 d 46 #[.int .i64 sz, .slice A k c, .map (some M), .bool false, .int .i64 0, .bool false, .int .i64 0] from (HN.out.blk.grew HG34.out).grown hg5 (fun e => hne.2 _ e.symm rfl))
              have f5 := HB5.out.frozen 1
              have c5 := HB5.out.cell 1
              have s5 := HB5.out.lt
              clear ho5 hg5 hlie hne
              refine hK.out _ _ trivial (fun _ => ?_)
              clear hK K
              (try simp only [Act.put, List.setIfInBounds_toArray, List.set_cons_zero, List.set_cons_succ])
              refine wpAnyH_take (i := 9) (v := ?_) rfl (by kernel_rfl) (by kernel_rfl) (by kernel_rfl) (fun _ _ _ h => h) (Or.inl ⟨by rfl, ?_⟩) trivial ?_
              rotate_left
              · (intro w hSw; (try dsimp only at hSw); go_simp) <;> with_reducible rfl
              (try simp only [Act.put, List.setIfInBounds_toArray, List.set_cons_zero, List.set_cons_succ])
              refine wpAnyH_take (i := 10) (v := ?_) rfl (by kernel_rfl) (by kernel_rfl) (by kernel_rfl) (fun _ _ _ h => h) (Or.inl ⟨by rfl, ?_⟩) trivial ?_
              rotate_left
              · (intro w hSw; (try dsimp only at hSw); go_simp) <;> with_reducible rfl
              (try simp only [Act.put, List.setIfInBounds_toArray, List.set_cons_zero, List.set_cons_succ])
              refine wpAnyH_ready (rs := [11]) (by kernel_rfl) (by simp) ?_
              refine AllReadyH.cons rfl (fun K hK => ?_) AllReadyH.nil
              go_simp
              refine hK.out _ _ trivial (fun _ => ?_)
              clear hK K
              (try simp only [Act.put, List.setIfInBounds_toArray, List.set_cons_zero, List.set_cons_succ])
              refine wpAnyH_done (by kernel_rfl) ?_ _
              go_wp2
              exact ⟨⟨k + 1, _, cap, M, _, by omega, by simp, HN.out.more HM.out.1 HM.out.2 HS34.out HG34.out HO5.out.1 HO5.out.2.1 HO5.out.2.2 rfl⟩, by simp [intOf]; omega⟩
        · go_simp
          refine hK.out _ _ trivial (fun _ => ?_)
          clear hK K
          (try simp only [Act.put, List.setIfInBounds_toArray, List.set_cons_zero, List.set_cons_succ])
          refine wpAnyH_ready (rs := [4]) (by kernel_rfl) (by simp) ?_
          refine (AllReadyH.cons rfl (fun K hK => ?_) AllReadyH.nil)
          · go_simp
            refine hK.out _ _ trivial (fun _ => ?_)
            clear hK K
            (try simp only [Act.put, List.setIfInBounds_toArray, List.set_cons_zero, List.set_cons_succ])
            refine wpAnyH_ready (rs := [8]) (by kernel_rfl) (by simp) ?_
            refine (AllReadyH.cons rfl (fun K hK => ?_) AllReadyH.nil)
            · refine step_append_lies _ (by rfl) _ _ _ (by rfl) w.heap.size 38 i0 _ 1 24 Tryz.underlying44 hi0 hz0 hz1 hz2 rfl (by omega) (.slice A k c) k vs (by rfl) HOw.out ⟨wr.heap.size + 1, 0, none⟩ 1 1 [.slice (some ⟨wr.heap.size, 0, none⟩) sz sz] (by rfl) (by rfl) (by intro j u hu; cases j with | zero => rw [Addr.add_lit]; cases hu; exact hnc | succ j => simp at hu) (by simp [Value.oneCell']) (by omega) (by simp only [maxLen]; omega) (by omega) (by have := HN.out.grew.size; simp [hz3']; omega) (wr.heap.size + 1 + 1) (by simp [hz3']) ?_
              intro g cap w5 ho5 hg5 hlie hlt5
              have hne : d ≠ g ∧ ∀ j, (Value.slice A k c).ownBlock = some j → j ≠ d := by
                refine ⟨fun e => ?_, fun j hj e => own_blk_ne (own_grew HN.out.row HG34.out) (HN.out.blk.grew HG34.out) (by decide) (e ▸ hj)⟩
                rcases hlie with h | h
                · exact own_blk_ne (own_grew HN.out.row HG34.out) (HN.out.blk.grew HG34.out) (by decide) (e ▸ h)
                · have := HN.out.blk.lt; omega
              have HO5 := Lib.hid (And.intro ho5 (And.intro hg5 hne))
              have HB5 := Lib.hid (show Blk w5 d 46 #[.int .i64 sz, .slice A k c, .map (some M), .bool false, .int .i64 0, .bool false, .int .i64 0] from (HN.out.blk.grew HG34.out).grown hg5 (fun e => hne.2 _ e.symm rfl))
              have f5 := HB5.out.frozen 1
              have c5 := HB5.out.cell 1
              have s5 := HB5.out.lt
              clear ho5 hg5 hlie hne
              refine hK.out _ _ trivial (fun _ => ?_)
              clear hK K
              (try simp only [Act.put, List.setIfInBounds_toArray, List.set_cons_zero, List.set_cons_succ])
              refine wpAnyH_take (i := 9) (v := ?_) rfl (by kernel_rfl) (by kernel_rfl) (by kernel_rfl) (fun _ _ _ h => h) (Or.inl ⟨by rfl, ?_⟩) trivial ?_
              rotate_left
              · (intro w hSw; (try dsimp only at hSw); go_simp) <;> with_reducible rfl
              (try simp only [Act.put, List.setIfInBounds_toArray, List.set_cons_zero, List.set_cons_succ])
              refine wpAnyH_take (i := 10) (v := ?_) rfl (by kernel_rfl) (by kernel_rfl) (by kernel_rfl) (fun _ _ _ h => h) (Or.inl ⟨by rfl, ?_⟩) trivial ?_
              rotate_left
              · (intro w hSw; (try dsimp only at hSw); go_simp) <;> with_reducible rfl
              (try simp only [Act.put, List.setIfInBounds_toArray, List.set_cons_zero, List.set_cons_succ])
              refine wpAnyH_ready (rs := [11]) (by kernel_rfl) (by simp) ?_
              refine AllReadyH.cons rfl (fun K hK => ?_) AllReadyH.nil
              go_simp
              refine hK.out _ _ trivial (fun _ => ?_)
              clear hK K
              (try simp only [Act.put, List.setIfInBounds_toArray, List.set_cons_zero, List.set_cons_succ])
              refine wpAnyH_done (by kernel_rfl) ?_ _
              go_wp2
              exact ⟨⟨k + 1, _, cap, M, _, by omega, by simp, HN.out.more HM.out.1 HM.out.2 HS34.out HG34.out HO5.out.1 HO5.out.2.1 HO5.out.2.2 rfl⟩, by simp [intOf]; omega⟩
    · obtain rfl : k = n := by omega
      go_wp2
      go_ret
      have hN := HN.out
      refine ⟨d, fun j => w.heap.size ≤ j ∧ j < wr.heap.size, rfl, ⟨⟨A, c, M, 0, vs, fun _ => none, hN.blk, own_base hN.row (Nat.zero_le _), hN.map, fun i hi => ?_, fun _ _ => rfl, (fun i bs h => (by cases h)), ⟨⟨hN.new.1, hN.blk.lt⟩, ⟨hN.new.2.1, hN.new.2.2⟩, fun a ha => ?_⟩, h1, h2, h3, h4, Nat.zero_le _⟩, fun j hj => hj.2⟩, hN.grew, fun j hj => hj.1⟩
      · obtain ⟨v, g1, g2⟩ := hN.dat i hi
        exact ⟨v, g1, g2, by simp⟩
      · subst ha
        obtain ⟨g, rfl, hg⟩ := own_some hN.row
        exact ⟨(hN.row.lt g rfl).1, hg⟩

end Go.Proofs.YtjlkpeplldckoaaGreatDoor

/- The pager: Write with no room; Read. -/
namespace Go.Proofs.YtjlkpeplldckoaaGreatDoor
open Go.RowKit Go.Maps

set_option maxRecDepth 100000 in
set_option maxHeartbeats 6400000 in
theorem gwrite_full (p i s : Nat) (nb : Nat) (Ab : Option Addr) (cb : Nat) (F : Nat → Prop) (X : Gp) (o : Cg) (w : World) (h : GS w p F X) (hr : X.rdy = 0) (hx : X.op = some o) (hz : X.Sz) (hi : X.table[i]? = some s) (hs : s ≠ 0) (hf : o.fresh s = false) (hsn : s < 4096) (hn : X.D.n ≤ 4096) (hm : X.room < (o.more (i / X.row) 1 : Nat)) (hb : nb = X.D.sz) :
    Calls Tryz.prog 15 #[.pointer (some ⟨p, 0, none⟩), .int .i64 i, .slice Ab nb cb] w fun e' w' => e' = .returned (.int .i64 21) ∧ Grew w w' := by
  have hrd := gready_any p F X w h
  rw [hr] at hrd
  have hus := gused_in p i s F X w h (by have := hz.tab.2; omega) hi
  rw [show (s != 0) = true from by simpa using hs] at hus
  have hsz := gsize_any p F X w h
  have hil : i < X.table.length := (List.getElem?_eq_some_iff.1 hi).1
  obtain ⟨k, hk⟩ : ∃ k, i / X.row = k := ⟨_, rfl⟩
  have HFL := Lib.hid h
  obtain ⟨L, d, b, A, ca, vp, vt, vo, h, hF⟩ := h
  obtain ⟨c0, f0, s0⟩ := h.blk.facts
  have ho := h.opn
  rw [hx] at ho
  obtain ⟨c, vw, M1, s1, vl, M2, s2, rfl, hi2⟩ := ho
  obtain ⟨g, ct, rfl, hgl, hlg, hce, hfe⟩ := h.entry hi
  have hdz := h.dsk.sml
  have htf := fun u (hu : Grew w u) => gtouch_full p i k 1 F X o u (HFL.out.grew hu) hx (by have := hz.free; omega) (by have := hz.row; omega) hk (by have := hz.tab.2; omega) (by omega) (by rw [← hk]; exact hm)
  have u1 : (0 : Int) ≤ (i : Int) := by omega
  have u2 : (i : Int) < (X.table.length : Int) := by omega
  have hlk : (Instr.lookup 60 (.map (some M1)) (.int .i64 s) false).run Tryz.prog w.drew = .ok (.bool false) w.drew := by
    have := (hi2.fr.grew ((Chg.refl _ w).drew)).look (t := 60) kInt Tryz.underlying3 Tryz.underlying60 (zBool w.drew) (i := (s : Int)) (wfInt (by omega) (by omega))
    rwa [mB_getD, hf] at this
  have hp4 : w.drew.cell? ⟨p, 4, none⟩ = some (.slice (some ⟨g, 0, none⟩) X.table.length ct) := (h.blk.drew).cell 4
  have hp6 : w.drew.cell? ⟨p, 6, none⟩ = some (.pointer (some ⟨c, 0, none⟩)) := (h.blk.drew).cell 6
  have hc1 : w.drew.cell? ⟨c, 1, none⟩ = some (.map (some M1)) := (hi2.blk.drew).cell 1
  have hgi : w.drew.cell? ⟨g, i, none⟩ = some (.int .i64 s) := hce
  have e3 : ((nb : Int) != (X.D.sz : Int)) = false := by simp [hb]
  have H := Lib.hid (And.intro hrd (And.intro hus (And.intro hsz htf)))
  clear h hr hrd hus hsz hx hz hi hs hf hi2 htf hF c0 f0 hce hm hk hb
  go_enter Tryz.func15, Tryz.ntmps15
  go_wp2_with (first
    | (go_at_call 32; (refine H.out.1.mono ?_); rintro e w1 ⟨rfl, rfl⟩)
    | (go_at_call 35; (refine H.out.2.1.mono ?_); rintro e w1 ⟨rfl, rfl⟩)
    | (go_at_call 11; (refine H.out.2.2.1.mono ?_); rintro e w1 ⟨rfl, rfl⟩))
  refine wp_region_held_drew (S := fun w' => w'.cell? ⟨p, 4, none⟩ = some (.slice (some ⟨g, 0, none⟩) X.table.length ct) ∧ w'.cell? ⟨p, 6, none⟩ = some (.pointer (some ⟨c, 0, none⟩)) ∧ w'.cell? ⟨c, 1, none⟩ = some (.map (some M1)) ∧ w'.cell? ⟨g, i, none⟩ = some (.int .i64 s) ∧ (Instr.lookup 60 (.map (some M1)) (.int .i64 s) false).run Tryz.prog w' = .ok (.bool false) w') (by kernel_rfl) ⟨hp4, hp6, hc1, hgi, hlk⟩ (fun hHeld => ?_)
  refine wpAnyH_take (i := 0) (v := ?_) rfl (by kernel_rfl) (by kernel_rfl) (by kernel_rfl) (fun _ _ _ h => h) (Or.inl ⟨by rfl, ?_⟩) hHeld ?_
  rotate_left
  · (intro w hSw; (try dsimp only at hSw); go_simp) <;> with_reducible rfl
  (try simp only [Act.put, List.setIfInBounds_toArray, List.set_cons_zero, List.set_cons_succ, List.getElem_toArray, List.getElem_cons_zero, List.getElem_cons_succ])
  refine wpAnyH_take (i := 1) (v := ?_) rfl (by kernel_rfl) (by kernel_rfl) (by kernel_rfl) (fun _ _ _ h => h) (Or.inl ⟨by rfl, ?_⟩) hHeld ?_
  rotate_left
  · (intro w hSw; (try dsimp only at hSw); go_simp) <;> with_reducible rfl
  (try simp only [Act.put, List.setIfInBounds_toArray, List.set_cons_zero, List.set_cons_succ, List.getElem_toArray, List.getElem_cons_zero, List.getElem_cons_succ])
  refine wpAnyH_take (i := 2) (v := ?_) rfl (by kernel_rfl) (by kernel_rfl) (by kernel_rfl) (fun _ _ _ h => h) (Or.inl ⟨by rfl, ?_⟩) hHeld ?_
  rotate_left
  · (intro w hSw; (try dsimp only at hSw); go_simp) <;> with_reducible rfl
  (try simp only [Act.put, List.setIfInBounds_toArray, List.set_cons_zero, List.set_cons_succ, List.getElem_toArray, List.getElem_cons_zero, List.getElem_cons_succ])
  refine wpAnyH_take (i := 3) (v := ?_) rfl (by kernel_rfl) (by kernel_rfl) (by kernel_rfl) (fun _ _ _ h => h) (Or.inl ⟨by rfl, ?_⟩) hHeld ?_
  rotate_left
  · (intro w hSw; (try dsimp only at hSw); go_simp) <;> with_reducible rfl
  (try simp only [Act.put, List.setIfInBounds_toArray, List.set_cons_zero, List.set_cons_succ, List.getElem_toArray, List.getElem_cons_zero, List.getElem_cons_succ])
  refine wpAnyH_take (i := 4) (v := ?_) rfl (by kernel_rfl) (by kernel_rfl) (by kernel_rfl) (fun _ _ _ h => h) (Or.inl ⟨by rfl, ?_⟩) hHeld ?_
  rotate_left
  · (intro w hSw; (try dsimp only at hSw); go_simp) <;> with_reducible rfl
  (try simp only [Act.put, List.setIfInBounds_toArray, List.set_cons_zero, List.set_cons_succ, List.getElem_toArray, List.getElem_cons_zero, List.getElem_cons_succ])
  refine wpAnyH_take (i := 5) (v := ?_) rfl (by kernel_rfl) (by kernel_rfl) (by kernel_rfl) (fun _ _ _ h => h) (Or.inl ⟨by rfl, ?_⟩) hHeld ?_
  rotate_left
  · (intro w hSw; (try dsimp only at hSw); go_simp) <;> with_reducible rfl
  (try simp only [Act.put, List.setIfInBounds_toArray, List.set_cons_zero, List.set_cons_succ, List.getElem_toArray, List.getElem_cons_zero, List.getElem_cons_succ])
  refine wpAnyH_take (i := 6) (v := ?_) rfl (by kernel_rfl) (by kernel_rfl) (by kernel_rfl) (fun _ _ _ h => h) (Or.inl ⟨by rfl, ?_⟩) hHeld ?_
  rotate_left
  · (intro w hSw; (try dsimp only at hSw); go_simp) <;> with_reducible rfl
  (try simp only [Act.put, List.setIfInBounds_toArray, List.set_cons_zero, List.set_cons_succ, List.getElem_toArray, List.getElem_cons_zero, List.getElem_cons_succ])
  refine wpAnyH_take (i := 7) (v := ?_) rfl (by kernel_rfl) (by kernel_rfl) (by kernel_rfl) (fun _ _ _ h => h) (Or.inl ⟨by rfl, ?_⟩) hHeld ?_
  rotate_left
  · (intro w hSw; (try dsimp only at hSw); go_simp) <;> with_reducible rfl
  (try simp only [Act.put, List.setIfInBounds_toArray, List.set_cons_zero, List.set_cons_succ, List.getElem_toArray, List.getElem_cons_zero, List.getElem_cons_succ])
  refine wpAnyH_take (i := 8) (v := ?_) rfl (by kernel_rfl) (by kernel_rfl) (by kernel_rfl) (fun _ _ _ h => h) (Or.inl ⟨by rfl, ?_⟩) hHeld ?_
  rotate_left
  · (intro w hSw; (try dsimp only at hSw); go_simp) <;> with_reducible rfl
  (try simp only [Act.put, List.setIfInBounds_toArray, List.set_cons_zero, List.set_cons_succ, List.getElem_toArray, List.getElem_cons_zero, List.getElem_cons_succ])
  refine wpAnyH_take (i := 9) (v := ?_) rfl (by kernel_rfl) (by kernel_rfl) (by kernel_rfl) (fun _ _ _ h => h) (Or.inl ⟨by rfl, ?_⟩) hHeld ?_
  rotate_left
  · (intro w hSw; (try dsimp only at hSw); go_simp) <;> with_reducible rfl
  (try simp only [Act.put, List.setIfInBounds_toArray, List.set_cons_zero, List.set_cons_succ, List.getElem_toArray, List.getElem_cons_zero, List.getElem_cons_succ])
  refine wpAnyH_take (i := 10) (v := ?_) rfl (by kernel_rfl) (by kernel_rfl) (by kernel_rfl) (fun _ _ _ h => h) (Or.inl ⟨by rfl, ?_⟩) hHeld ?_
  rotate_left
  · (intro w hSw; (try dsimp only at hSw); go_simp) <;> with_reducible rfl
  (try simp only [Act.put, List.setIfInBounds_toArray, List.set_cons_zero, List.set_cons_succ, List.getElem_toArray, List.getElem_cons_zero, List.getElem_cons_succ])
  refine wpAnyH_take (i := 11) (v := ?_) rfl (by kernel_rfl) (by kernel_rfl) (by kernel_rfl) (fun _ _ _ h => h) (Or.inl ⟨by rfl, ?_⟩) hHeld ?_
  rotate_left
  · (intro w hSw; (try dsimp only at hSw); go_simp) <;> with_reducible rfl
  (try simp only [Act.put, List.setIfInBounds_toArray, List.set_cons_zero, List.set_cons_succ, List.getElem_toArray, List.getElem_cons_zero, List.getElem_cons_succ])
  refine wpAnyH_take (i := 12) (v := ?_) rfl (by kernel_rfl) (by kernel_rfl) (by kernel_rfl) (fun _ _ _ h => h) (Or.inl ⟨by rfl, ?_⟩) hHeld ?_
  rotate_left
  · (intro w hSw; (try dsimp only at hSw); go_simp) <;> with_reducible rfl
  (try simp only [Act.put, List.setIfInBounds_toArray, List.set_cons_zero, List.set_cons_succ, List.getElem_toArray, List.getElem_cons_zero, List.getElem_cons_succ])
  refine wpAnyH_take (i := 13) (v := ?_) rfl (by kernel_rfl) (by kernel_rfl) (by kernel_rfl) (fun _ _ _ h => h) (Or.inl ⟨by rfl, ?_⟩) hHeld ?_
  rotate_left
  · (intro w hSw; (try dsimp only at hSw); go_simp) <;> with_reducible rfl
  (try simp only [Act.put, List.setIfInBounds_toArray, List.set_cons_zero, List.set_cons_succ, List.getElem_toArray, List.getElem_cons_zero, List.getElem_cons_succ])
  refine wpAnyH_take (i := 14) (v := ?_) rfl (by kernel_rfl) (by kernel_rfl) (by kernel_rfl) (fun _ _ _ h => h) (Or.inl ⟨by rfl, ?_⟩) hHeld ?_
  rotate_left
  · (intro w hSw; (try dsimp only at hSw); go_simp) <;> with_reducible rfl
  (try simp only [Act.put, List.setIfInBounds_toArray, List.set_cons_zero, List.set_cons_succ, List.getElem_toArray, List.getElem_cons_zero, List.getElem_cons_succ])
  refine wpAnyH_ready (rs := [15]) (by kernel_rfl) (by simp) ?_
  refine AllReadyH.cons rfl (fun K hK => ?_) AllReadyH.nil
  go_simp
  refine hK.out _ _ hHeld (fun _ => ?_)
  clear hK K
  (try simp only [Act.put, List.setIfInBounds_toArray, List.set_cons_zero, List.set_cons_succ, List.getElem_toArray, List.getElem_cons_zero, List.getElem_cons_succ])
  refine wpAnyH_done (by kernel_rfl) ?_ _
  clear hHeld hlk hp4 hp6 hc1 hgi hgl hlg hfe s0
  go_wp2_with fail
  refine (H.out.2.2.2 _ ((Chg.refl _ _).drew)).mono ?_
  rintro e w1 ⟨rfl, hg1⟩
  have HG1 := Lib.hid (Grew.trans ((Chg.refl NoF w).drew) hg1)
  clear hg1
  go_wp2_with fail
  go_ret
  exact ⟨rfl, HG1.out⟩

theorem gread_none (p : Nat) (i : Int) (F : Nat → Prop) (X : Gp) (w : World) (h : GS w p F X) (hd : X.down = false) (hl : X.table.length ≤ 4096) (hu : X.usedB i = false) :
    Calls Tryz.prog 19 #[.pointer (some ⟨p, 0, none⟩), .int .i64 i] w fun e' w' => e' = .returned (.tuple #[.slice none 0 0, .int .i64 14]) ∧ w = w' := by
  have hus := gused_any p i F X w h (by omega)
  rw [hu] at hus
  obtain ⟨L, d, b, A, ca, vp, vt, vo, h, hF⟩ := h
  obtain ⟨c0, f0, s0⟩ := h.blk.facts
  rw [hd] at c0
  have H := Lib.hid hus
  clear h hF hd hu hus
  go_enter Tryz.func19, Tryz.ntmps19
  go_wp2_with (go_at_call 35; (refine H.out.mono ?_); rintro e w1 ⟨rfl, rfl⟩)
  go_ret2
  exact ⟨rfl, rfl⟩

set_option maxRecDepth 100000 in
set_option maxHeartbeats 800000 in
theorem gread_one (p i : Nat) (F : Nat → Prop) (X : Gp) (w : World) (h : GS w p F X) (hd : X.down = false) (hl : X.table.length ≤ 4096) (hi : X.table[i]? = some 1) :
    Calls Tryz.prog 19 #[.pointer (some ⟨p, 0, none⟩), .int .i64 i] w fun e' w' => OwnOut w w' 5 1 X.D.sz (bv (List.replicate X.D.sz 0)) (fun A c => .tuple #[.slice A X.D.sz c, .int .i64 0]) e' := by
  have hus := gused_in p i 1 F X w h (by omega) hi
  have hsz := gsize_any p F X w h
  obtain ⟨L, d, b, A, ca, vp, vt, vo, h, hF⟩ := h
  obtain ⟨c0, f0, s0⟩ := h.blk.facts
  rw [hd] at c0
  obtain ⟨g, ct, rfl, hgl, hlg, hce, hfe⟩ := h.entry hi
  have hil : i < X.table.length := (List.getElem?_eq_some_iff.1 hi).1
  have hdz := h.dsk.sml
  have u1 : (0 : Int) ≤ (i : Int) := by omega
  have u2 : (i : Int) < (X.table.length : Int) := by omega
  obtain ⟨w3, hr3, ho3, hg3, hz3⟩ := make_bytes X.D.sz w (by omega)
  have H := Lib.hid (And.intro hus (And.intro hsz (And.intro ho3 hg3)))
  clear h hF hd hus hsz ho3 hg3 hz3 hi
  go_enter Tryz.func19, Tryz.ntmps19
  go_wp2_with (first
    | (go_at_call 35; (refine H.out.1.mono ?_); rintro e w1 ⟨rfl, rfl⟩)
    | (go_at_call 11; (refine H.out.2.1.mono ?_); rintro e w1 ⟨rfl, rfl⟩))
  go_ret2
  exact OwnOut.mk _ _ rfl H.out.2.2.1 H.out.2.2.2

/-- What reading a page leaves. -/
def ReadOut (w w' : World) (p : Nat) (F : Nat → Prop) (X : Gp) (n : Nat) (xs : List Value) (e : Ending) : Prop :=
  ∃ A c, e = .returned (.tuple #[.slice A n c, .int .i64 0]) ∧ w'.ownsRow w.heap.size 5 1 (.slice A n c) n xs ∧ GS w' p F X ∧ Chg F w w' ∧ ∀ a, A = some a → ¬ F a.block

set_option maxRecDepth 100000 in
set_option maxHeartbeats 1600000 in
theorem gread_sec (p i s : Nat) (F : Nat → Prop) (X : Gp) (w : World) (h : GS w p F X) (hd : X.down = false) (hdd : X.D.down = false) (hl : X.table.length ≤ 4096) (hi : X.table[i]? = some s) (hs : 2 ≤ s) (hsn : s < X.D.n) :
    Calls Tryz.prog 19 #[.pointer (some ⟨p, 0, none⟩), .int .i64 i] w fun e' w' => ReadOut w w' p F X X.D.sz (bv (X.D.rd s)) e' := by
  have HGS := Lib.hid h
  have hus := gused_in p i s F X w h (by omega) hi
  rw [show (s != 0) = true from by simp; omega] at hus
  obtain ⟨L, d, b, A, ca, vp, vt, vo, h, hF⟩ := h
  obtain ⟨c0, f0, s0⟩ := h.blk.facts
  rw [hd] at c0
  obtain ⟨g, ct, rfl, hgl, hlg, hce, hfe⟩ := h.entry hi
  have hil : i < X.table.length := (List.getElem?_eq_some_iff.1 hi).1
  have u1 : (0 : Int) ≤ (i : Int) := by omega
  have u2 : (i : Int) < (X.table.length : Int) := by omega
  have e1 : ((s : Int) == 1) = false := by simp; omega
  have hp0 : w.drew.cell? ⟨p, 0, none⟩ = some (.pointer (some ⟨d, 0, none⟩)) := (h.blk.drew).cell 0
  have hp4 : w.drew.cell? ⟨p, 4, none⟩ = some (.slice (some ⟨g, 0, none⟩) X.table.length ct) := (h.blk.drew).cell 4
  have hgi : w.drew.cell? ⟨g, i, none⟩ = some (.int .i64 s) := hce
  have hdz := h.dsk.sml
  have hrd : Calls Tryz.prog 44 #[.pointer (some ⟨d, 0, none⟩), .int .i64 (s : Int)] w.drew fun e w2 => OwnOut w.drew w2 5 1 X.D.sz (bv (X.D.rd s)) (fun A c => .tuple #[.slice A X.D.sz c, .int .i64 0]) e := dread_ok d s _ X.D _ (h.dsk.grew ((Chg.refl _ _).drew)) hdd (by omega) (by omega)
  have H := Lib.hid (And.intro hus (And.intro hrd (And.intro h (And.intro hF hd))))
  clear h hF hd hus hrd hi
  go_enter Tryz.func19, Tryz.ntmps19
  go_wp2_with (go_at_call 35; (refine H.out.1.mono ?_); rintro e w1 ⟨rfl, rfl⟩)
  refine wp_region_held_drew (S := fun w' => w'.cell? ⟨p, 0, none⟩ = some (.pointer (some ⟨d, 0, none⟩)) ∧ w'.cell? ⟨p, 4, none⟩ = some (.slice (some ⟨g, 0, none⟩) X.table.length ct) ∧ w'.cell? ⟨g, i, none⟩ = some (.int .i64 s)) (by kernel_rfl) ⟨hp0, hp4, hgi⟩ (fun hHeld => ?_)
  refine wpAnyH_take (i := 0) (v := ?_) rfl (by kernel_rfl) (by kernel_rfl) (by kernel_rfl) (fun _ _ _ h => h) (Or.inl ⟨by rfl, ?_⟩) hHeld ?_
  rotate_left
  · (intro w hSw; (try dsimp only at hSw); go_simp) <;> with_reducible rfl
  (try simp only [Act.put, List.setIfInBounds_toArray, List.set_cons_zero, List.set_cons_succ, List.getElem_toArray, List.getElem_cons_zero, List.getElem_cons_succ])
  refine wpAnyH_take (i := 1) (v := ?_) rfl (by kernel_rfl) (by kernel_rfl) (by kernel_rfl) (fun _ _ _ h => h) (Or.inl ⟨by rfl, ?_⟩) hHeld ?_
  rotate_left
  · (intro w hSw; (try dsimp only at hSw); go_simp) <;> with_reducible rfl
  (try simp only [Act.put, List.setIfInBounds_toArray, List.set_cons_zero, List.set_cons_succ, List.getElem_toArray, List.getElem_cons_zero, List.getElem_cons_succ])
  refine wpAnyH_take (i := 2) (v := ?_) rfl (by kernel_rfl) (by kernel_rfl) (by kernel_rfl) (fun _ _ _ h => h) (Or.inl ⟨by rfl, ?_⟩) hHeld ?_
  rotate_left
  · (intro w hSw; (try dsimp only at hSw); go_simp) <;> with_reducible rfl
  (try simp only [Act.put, List.setIfInBounds_toArray, List.set_cons_zero, List.set_cons_succ, List.getElem_toArray, List.getElem_cons_zero, List.getElem_cons_succ])
  refine wpAnyH_take (i := 3) (v := ?_) rfl (by kernel_rfl) (by kernel_rfl) (by kernel_rfl) (fun _ _ _ h => h) (Or.inl ⟨by rfl, ?_⟩) hHeld ?_
  rotate_left
  · (intro w hSw; (try dsimp only at hSw); go_simp) <;> with_reducible rfl
  (try simp only [Act.put, List.setIfInBounds_toArray, List.set_cons_zero, List.set_cons_succ, List.getElem_toArray, List.getElem_cons_zero, List.getElem_cons_succ])
  refine wpAnyH_take (i := 4) (v := ?_) rfl (by kernel_rfl) (by kernel_rfl) (by kernel_rfl) (fun _ _ _ h => h) (Or.inl ⟨by rfl, ?_⟩) hHeld ?_
  rotate_left
  · (intro w hSw; (try dsimp only at hSw); go_simp) <;> with_reducible rfl
  (try simp only [Act.put, List.setIfInBounds_toArray, List.set_cons_zero, List.set_cons_succ, List.getElem_toArray, List.getElem_cons_zero, List.getElem_cons_succ])
  refine wpAnyH_take (i := 5) (v := ?_) rfl (by kernel_rfl) (by kernel_rfl) (by kernel_rfl) (fun _ _ _ h => h) (Or.inl ⟨by rfl, ?_⟩) hHeld ?_
  rotate_left
  · (intro w hSw; (try dsimp only at hSw); go_simp) <;> with_reducible rfl
  (try simp only [Act.put, List.setIfInBounds_toArray, List.set_cons_zero, List.set_cons_succ, List.getElem_toArray, List.getElem_cons_zero, List.getElem_cons_succ])
  refine wpAnyH_take (i := 6) (v := ?_) rfl (by kernel_rfl) (by kernel_rfl) (by kernel_rfl) (fun _ _ _ h => h) (Or.inl ⟨by rfl, ?_⟩) hHeld ?_
  rotate_left
  · (intro w hSw; (try dsimp only at hSw); go_simp) <;> with_reducible rfl
  (try simp only [Act.put, List.setIfInBounds_toArray, List.set_cons_zero, List.set_cons_succ, List.getElem_toArray, List.getElem_cons_zero, List.getElem_cons_succ])
  refine wpAnyH_take (i := 7) (v := ?_) rfl (by kernel_rfl) (by kernel_rfl) (by kernel_rfl) (fun _ _ _ h => h) (Or.inl ⟨by rfl, ?_⟩) hHeld ?_
  rotate_left
  · (intro w hSw; (try dsimp only at hSw); go_simp) <;> with_reducible rfl
  (try simp only [Act.put, List.setIfInBounds_toArray, List.set_cons_zero, List.set_cons_succ, List.getElem_toArray, List.getElem_cons_zero, List.getElem_cons_succ])
  refine wpAnyH_take (i := 8) (v := ?_) rfl (by kernel_rfl) (by kernel_rfl) (by kernel_rfl) (fun _ _ _ h => h) (Or.inl ⟨by rfl, ?_⟩) hHeld ?_
  rotate_left
  · (intro w hSw; (try dsimp only at hSw); go_simp) <;> with_reducible rfl
  (try simp only [Act.put, List.setIfInBounds_toArray, List.set_cons_zero, List.set_cons_succ, List.getElem_toArray, List.getElem_cons_zero, List.getElem_cons_succ])
  refine wpAnyH_take (i := 9) (v := ?_) rfl (by kernel_rfl) (by kernel_rfl) (by kernel_rfl) (fun _ _ _ h => h) (Or.inl ⟨by rfl, ?_⟩) hHeld ?_
  rotate_left
  · (intro w hSw; (try dsimp only at hSw); go_simp) <;> with_reducible rfl
  (try simp only [Act.put, List.setIfInBounds_toArray, List.set_cons_zero, List.set_cons_succ, List.getElem_toArray, List.getElem_cons_zero, List.getElem_cons_succ])
  refine wpAnyH_take (i := 10) (v := ?_) rfl (by kernel_rfl) (by kernel_rfl) (by kernel_rfl) (fun _ _ _ h => h) (Or.inl ⟨by rfl, ?_⟩) hHeld ?_
  rotate_left
  · (intro w hSw; (try dsimp only at hSw); go_simp) <;> with_reducible rfl
  (try simp only [Act.put, List.setIfInBounds_toArray, List.set_cons_zero, List.set_cons_succ, List.getElem_toArray, List.getElem_cons_zero, List.getElem_cons_succ])
  refine wpAnyH_ready (rs := [11]) (by kernel_rfl) (by simp) ?_
  refine AllReadyH.cons rfl (fun K hK => ?_) AllReadyH.nil
  go_simp
  refine H.out.2.1.mono ?_
  rintro e w3 ⟨A3, c3, rfl, ho3, hg3⟩
  have hHeld3 : w3.cell? ⟨p, 0, none⟩ = some (.pointer (some ⟨d, 0, none⟩)) ∧ w3.cell? ⟨p, 4, none⟩ = some (.slice (some ⟨g, 0, none⟩) X.table.length ct) ∧ w3.cell? ⟨g, i, none⟩ = some (.int .i64 s) :=
    ⟨(hg3.cell (p := ⟨p, 0, none⟩) s0 id).trans hp0, (hg3.cell (p := ⟨p, 4, none⟩) s0 id).trans hp4, (hg3.cell (p := ⟨g, i, none⟩) hgl id).trans hgi⟩
  have HR := Lib.hid (And.intro ho3 (Grew.trans ((Chg.refl NoF w).drew) hg3))
  clear ho3 hg3
  refine hK.out _ _ hHeld3 (fun _ => ?_)
  clear hK K
  (try simp only [Act.put, List.setIfInBounds_toArray, List.set_cons_zero, List.set_cons_succ, List.getElem_toArray, List.getElem_cons_zero, List.getElem_cons_succ])
  refine wpAnyH_take (i := 12) (v := ?_) rfl (by kernel_rfl) (by kernel_rfl) (by kernel_rfl) (fun _ _ _ h => h) (Or.inl ⟨by rfl, ?_⟩) hHeld3 ?_
  rotate_left
  · (intro w hSw; (try dsimp only at hSw); go_simp) <;> with_reducible rfl
  (try simp only [Act.put, List.setIfInBounds_toArray, List.set_cons_zero, List.set_cons_succ, List.getElem_toArray, List.getElem_cons_zero, List.getElem_cons_succ])
  refine wpAnyH_take (i := 13) (v := ?_) rfl (by kernel_rfl) (by kernel_rfl) (by kernel_rfl) (fun _ _ _ h => h) (Or.inl ⟨by rfl, ?_⟩) hHeld3 ?_
  rotate_left
  · (intro w hSw; (try dsimp only at hSw); go_simp) <;> with_reducible rfl
  (try simp only [Act.put, List.setIfInBounds_toArray, List.set_cons_zero, List.set_cons_succ, List.getElem_toArray, List.getElem_cons_zero, List.getElem_cons_succ])
  refine wpAnyH_take (i := 14) (v := ?_) rfl (by kernel_rfl) (by kernel_rfl) (by kernel_rfl) (fun _ _ _ h => h) (Or.inl ⟨by rfl, ?_⟩) hHeld3 ?_
  rotate_left
  · (intro w hSw; (try dsimp only at hSw); go_simp) <;> with_reducible rfl
  (try simp only [Act.put, List.setIfInBounds_toArray, List.set_cons_zero, List.set_cons_succ, List.getElem_toArray, List.getElem_cons_zero, List.getElem_cons_succ])
  refine wpAnyH_take (i := 15) (v := ?_) rfl (by kernel_rfl) (by kernel_rfl) (by kernel_rfl) (fun _ _ _ h => h) (Or.inl ⟨by rfl, ?_⟩) hHeld3 ?_
  rotate_left
  · (intro w hSw; (try dsimp only at hSw); go_simp) <;> with_reducible rfl
  (try simp only [Act.put, List.setIfInBounds_toArray, List.set_cons_zero, List.set_cons_succ, List.getElem_toArray, List.getElem_cons_zero, List.getElem_cons_succ])
  refine wpAnyH_ready (rs := [16]) (by kernel_rfl) (by simp) ?_
  refine AllReadyH.cons rfl (fun K hK => ?_) AllReadyH.nil
  go_simp
  refine hK.out _ _ hHeld3 (fun _ => ?_)
  clear hK K
  (try simp only [Act.put, List.setIfInBounds_toArray, List.set_cons_zero, List.set_cons_succ, List.getElem_toArray, List.getElem_cons_zero, List.getElem_cons_succ])
  refine wpAnyH_done (by kernel_rfl) ?_ _
  clear hHeld hHeld3 hp0 hp4 hgi c0 f0 s0 hgl hce hfe
  go_wp2_with fail
  refine (gnote_at p 0 _ _ (H.out.2.2.1.grew HR.out.2).blk (by show _ = some (Value.bool false); rw [← H.out.2.2.2.2]; rfl) rfl).mono ?_
  rintro e w4 ⟨rfl, hw4⟩
  have HW4 := Lib.hid hw4
  clear hw4
  go_wp2
  go_ret2
  have hG := H.out.2.2.1.grew HR.out.2
  have hfl := hG.flag false
  rw [HW4.out] at hfl
  have hc : Chg (fun j => L j = 1) w w4 := Grew.then HR.out.2 hfl.2.chg
  refine ⟨A3, c3, rfl, ?_, ⟨L, d, b, A, ca, vp, .slice (some ⟨g, 0, none⟩) X.table.length ct, vo, ?_, H.out.2.2.2.1⟩, hc.mono fun j _ e => (H.out.2.2.2.1 j).2 (by omega), fun a ha hf => ?_⟩
  · refine own_chg HR.out.1 hfl.2.chg fun j hj e => ?_
    have h1 := (HR.out.1.lt j hj).1
    have h2 := H.out.2.2.1.lt j (by omega)
    have h1' : w.heap.size ≤ j := h1
    omega
  · have e : ({ X with down := false } : Gp) = X := by rw [← H.out.2.2.2.2]
    rw [← e]
    exact hfl.1
  · subst ha
    have h1 := (HR.out.1.lt a.block rfl).1
    have h2 := H.out.2.2.1.lt a.block ((H.out.2.2.2.1 _).1 hf)
    have h1' : w.heap.size ≤ a.block := h1
    omega

end Go.Proofs.YtjlkpeplldckoaaGreatDoor

/- The pager, as its pages are: Begin, Alloc, Write, Read. -/
namespace Go.Proofs.YtjlkpeplldckoaaGreatDoor
open Go.RowKit Go.Maps

theorem setB_same {f : Nat → Bool} {k : Nat} (h : f k = true) : setB f k true = f := by
  funext j
  unfold setB
  by_cases e : j = k
  · subst e; rw [if_pos rfl, h]
  · rw [if_neg e]
section
variable {X : Gp} {o : Cg} {i j s : Nat} {bs : List Int}
theorem Gp.Ok.tcroom (h : X.Ok) (hx : X.op = some o) {k m : Nat} (hk : k < X.pages.length) (hm : (o.more k m : Nat) ≤ X.room) : cntN (setB X.tc k true) 64 + m ≤ cnt X.free := by
  have e : X.tc = o.touched := by simp only [Gp.tc, hx]
  have hr : X.room = (cnt X.free : Int) - (cntN o.touched 64 : Int) := by simp only [Gp.room, hx]
  rw [hr] at hm
  rw [e]
  unfold Cg.more at hm
  cases ht : o.touched k with
  | true => rw [ht] at hm; rw [setB_same ht]; simp at hm; omega
  | false =>
    rw [ht] at hm
    rw [cntN_yes _ (by have := h.inv.pg64; omega) ht]
    simp at hm
    omega
theorem Gp.Ok.tch (h : X.Ok) (hx : X.op = some o) (hi : i < X.table.length) {m : Nat} (hm : (o.more (i / X.row) m : Nat) ≤ X.room) :
    Inv X.D X.epoch X.pages X.table o.was X.free o.fresh o.left (setB o.touched (i / (X.D.sz / 2)) true) ∧ cntN (setB o.touched (i / (X.D.sz / 2)) true) 64 + m ≤ cnt X.free := by
  have hk := h.inv.part hi
  rw [h.row] at hm
  have hr := h.tcroom hx hk hm
  have hv := h.inv.tch hk (by omega)
  simp only [Gp.old, Gp.fr, Gp.lf, Gp.tc, hx] at hv hr
  exact ⟨hv, hr⟩
theorem Gp.view_was (hx : X.op = some o) : X.view.was = some (o.was.map (pk X.D fun _ => false)) := by simp [Gp.view, hx]
theorem Gp.Ok.alloc (h : X.Ok) (hx : X.op = some o) (hi : X.table[i]? = some 0) (hm : (o.more (i / X.row) 0 : Nat) ≤ X.room) : (X.alloc o i).Ok ∧ (X.alloc o i).view = X.view.put i .zero := by
  obtain ⟨h1, -⟩ := h.tch hx (List.getElem?_eq_some_iff.1 hi).1 hm
  have h2 := h1.zero (v := 1) hi (by omega) (by omega) (by simp [setB])
  have hr := h.row
  refine ⟨⟨?_, h.row, h.up⟩, ?_⟩
  · rw [← h.row] at h2
    exact h2
  · unfold Gp.view Rp.put Gp.alloc Gp.touch
    simp only [Gp.fr, Gp.tc, hx, Option.map_some, Rp.row]
    rw [List.map_set, show pk X.D o.fresh 1 = .zero from rfl, hr]
theorem pk_wr {D : Dk} {fr fr' : Nat → Bool} {j s : Nat} {bs : List Int} (hs : s ≠ j) (hf : fr' s = fr s) : pk (D.wr j bs) fr' s = pk D fr s := by
  unfold pk
  rw [Dk.wr_rd, if_neg hs, hf]
theorem Gp.Ok.fill (h : X.Ok) (hx : X.op = some o) (hi : X.table[i]? = some s) (hf : o.fresh s = false) (hj : X.free.getD j false = true) (hm : (o.more (i / X.row) 1 : Nat) ≤ X.room) (hb : ∀ x ∈ bs, 0 ≤ x ∧ x ≤ 255) :
    (X.fill o i s j bs).Ok ∧ (X.fill o i s j bs).view = X.view.put i (.new bs) := by
  obtain ⟨h1, h3⟩ := h.tch hx (List.getElem?_eq_some_iff.1 hi).1 hm
  obtain ⟨j1, j2, j3, j4, j5, j6⟩ := h1.free hj
  have h2 := (h1.write ⟨j2, j1, j3, j4⟩ hb).fill hi hf hj (by simp [setB, Dk.wr]) h3
  refine ⟨⟨?_, h.row, h.up⟩, ?_⟩
  · have e : (X.fill o i s j bs).tc = setB o.touched (i / (X.D.sz / 2)) true := by simp only [Gp.fill, Gp.tc, Cg.fill, h.row]
    rw [e]
    exact h2
  · unfold Gp.view Rp.put Gp.fill
    simp only [Gp.fr, Gp.tc, hx, Option.map_some, Rp.row, Cg.fill]
    have e1 : X.table.map (pk (X.D.wr j bs) (setB o.fresh j true)) = X.table.map (pk X.D o.fresh) := List.map_congr_left fun s hs => by
      obtain ⟨k, hk⟩ := List.mem_iff_getElem?.1 hs
      have hsj : s ≠ j := fun e => j6 k (e ▸ hk)
      exact pk_wr hsj (by simp [setB, hsj])
    have e2 : o.was.map (pk (X.D.wr j bs) fun _ => false) = o.was.map (pk X.D fun _ => false) := List.map_congr_left fun s hs => by
      obtain ⟨k, hk⟩ := List.mem_iff_getElem?.1 hs
      exact pk_wr (fun e => j4 k (e ▸ hk)) rfl
    have e3 : pk (X.D.wr j bs) (setB o.fresh j true) j = .new bs := by
      unfold pk
      rw [Dk.wr_rd, if_pos rfl, if_neg (by omega), if_neg (by omega)]
      simp [setB]
    rw [List.map_set, e1, e2, e3, h.row]
    rfl
theorem Gp.Ok.put (h : X.Ok) (hx : X.op = some o) (hi : X.table[i]? = some s) (hf : o.fresh s = true) (hb : ∀ x ∈ bs, 0 ≤ x ∧ x ≤ 255) : (X.put s bs).Ok ∧ (X.put s bs).view = X.view.put i (.new bs) := by
  have hv := h.inv
  simp only [Gp.old, Gp.fr, Gp.lf, Gp.tc, hx] at hv
  obtain ⟨j1, j2, j3, j4, -⟩ := hv.frr s hf
  have h2 := hv.write ⟨j2, j1, j3, j4⟩ hb
  have hil : i < X.table.length := (List.getElem?_eq_some_iff.1 hi).1
  have ht : o.touched (i / (X.D.sz / 2)) = true := hv.tcd i fun e => j4 i (e ▸ hi)
  refine ⟨⟨?_, h.row, h.up⟩, ?_⟩
  · simp only [Gp.put, Gp.old, Gp.fr, Gp.lf, Gp.tc, hx]
    exact h2
  · unfold Gp.view Rp.put Gp.put
    simp only [Gp.fr, Gp.tc, hx, Option.map_some, Rp.row]
    rw [setB_same ht]
    have e2 : o.was.map (pk (X.D.wr s bs) fun _ => false) = o.was.map (pk X.D fun _ => false) := List.map_congr_left fun q hq => by
      obtain ⟨k, hk⟩ := List.mem_iff_getElem?.1 hq
      exact pk_wr (fun e => j4 k (e ▸ hk)) rfl
    have e1 : X.table.map (pk (X.D.wr s bs) o.fresh) = (X.table.map (pk X.D o.fresh)).set i (.new bs) := by
      apply List.ext_getElem?
      intro k
      rw [set_at (by simpa using hil), List.getElem?_map, List.getElem?_map]
      by_cases e : k = i
      · subst e
        rw [if_pos rfl, hi]
        simp only [Option.map_some, Option.some.injEq]
        unfold pk
        rw [Dk.wr_rd, if_pos rfl, if_neg (by omega), if_neg (by omega), if_pos hf]
      · rw [if_neg e]
        cases hk : X.table[k]? with
        | none => rfl
        | some q =>
          simp only [Option.map_some, Option.some.injEq]
          exact pk_wr (fun e' => e (hv.jT k i q hk (e' ▸ hi) (by omega))) rfl
    rw [e1, e2]
    rfl
end

/-- A pager whose pages are these. -/
def GP (w : World) (p : Nat) (F : Nat → Prop) (x : Rp) : Prop := ∃ X, GS w p F X ∧ X.Ok ∧ X.view = x
def GPTo (w w' : World) (p : Nat) (F : Nat → Prop) (x : Rp) : Prop := To (fun w F => GP w p F x) w w' F
section
variable {w w' w2 : World} {p : Nat} {F : Nat → Prop} {X : Gp} {x : Rp}
theorem GP.chg {G : Nat → Prop} (h : GP w p F x) (hc : Chg G w w') (hG : ∀ j, F j → ¬ G j) (hG0 : ¬ G 0) : GP w' p F x := by
  obtain ⟨X, h1, h2⟩ := h
  exact ⟨X, h1.chg hc hG hG0, h2⟩
theorem GP.grew (h : GP w p F x) (hc : Grew w w') : GP w' p F x := h.chg hc (fun _ _ => id) id
theorem GP.lt (h : GP w p F x) : ∀ j, F j → j < w.heap.size := by
  obtain ⟨X, h1, -⟩ := h
  exact h1.lt
theorem GP.zero (h : GP w p F x) : ¬ F 0 := by
  obtain ⟨X, h1, -⟩ := h
  exact h1.zero
theorem GP.tab (h : GP w p F x) : TabAt 0 tab w := by
  obtain ⟨X, h1, -⟩ := h
  exact h1.tab
theorem GP.to (h : GP w p F x) (hc : Grew w w') : GPTo w w' p F x := To.of (h.grew hc) hc.chg
theorem GPTo.grew (h : GPTo w w' p F x) (hc : Grew w' w2) : GPTo w w2 p F x := To.grew h hc fun _ k => k.grew hc
theorem GTo.gp (h : GTo w w' p F X) (ho : X.Ok) (hv : X.view = x) : GPTo w w' p F x := To.imp h fun _ k => ⟨X, k, ho, hv⟩
theorem GP.szs (h : GP w p F x) : 8 ≤ x.n ∧ x.n ≤ 4096 ∧ 64 ≤ x.sz ∧ x.sz ≤ 4096 ∧ x.now.length = capN x.n x.sz ∧ x.now.length ≤ 4096 := by
  obtain ⟨X, -, h2, rfl⟩ := h
  have := h2.inv.sz
  have e : X.view.now.length = X.table.length := by simp [Gp.view]
  have h4 := h2.inv.tb4.1
  exact ⟨this.1, this.2.1, this.2.2.1, this.2.2.2, by rw [e]; exact h2.inv.lens.2.2.1, by rw [e]; exact h4⟩
end
/-- A page's entry. -/
theorem Gp.entry_no {X : Gp} {i : Nat} : X.view.now[i]? = some .no ↔ X.table[i]? = some 0 := by
  simp only [Gp.view, List.getElem?_map]
  cases h : X.table[i]? with
  | none => simp
  | some s =>
    simp only [Option.map_some, Option.some.injEq]
    constructor
    · intro e
      by_cases h0 : s = 0
      · exact h0
      · have := pk_used X.D X.fr s
        rw [e] at this
        simp [Pk.used, h0] at this
    · rintro rfl; rfl
theorem Gp.entry_used {X : Gp} {i : Nat} {c : Pk} (h : X.view.now[i]? = some c) (hu : c.used = true) : ∃ s, X.table[i]? = some s ∧ s ≠ 0 ∧ c = pk X.D X.fr s := by
  simp only [Gp.view, List.getElem?_map] at h
  cases ht : X.table[i]? with
  | none => rw [ht] at h; cases h
  | some s =>
    rw [ht] at h
    simp only [Option.map_some, Option.some.injEq] at h
    subst h
    rw [pk_used] at hu
    exact ⟨s, rfl, by simpa using hu, rfl⟩
theorem Gp.Ok.rdy {X : Gp} {o : Cg} (h : X.Ok) (hx : X.op = some o) : X.rdy = 0 := by
  unfold Gp.rdy
  rw [h.up.1, hx]
  rfl
theorem Gp.view_op {X : Gp} (h : X.view.was ≠ none) : ∃ o, X.op = some o := by
  cases hx : X.op with
  | none => simp [Gp.view, hx] at h
  | some o => exact ⟨o, rfl⟩
theorem Gp.more_need {X : Gp} {o : Cg} (h : X.Ok) (hx : X.op = some o) (i m : Nat) : o.more (i / X.row) m = X.view.need (i / X.view.row) m := by
  unfold Cg.more Rp.need Rp.row
  rw [h.row]
  simp only [Gp.view, Gp.tc, hx]

section
variable (p i : Nat) (F : Nat → Prop) (x : Rp) (w : World)
theorem gp_begin (h : GP w p F x) (ho : x.was = none) :
    Calls Tryz.prog 13 #[.pointer (some ⟨p, 0, none⟩)] w fun e' w' => e' = .returned (.int .i64 0) ∧ GPTo w w' p F x.begun := by
  obtain ⟨X, h1, h2, rfl⟩ := h
  have hx : X.op = none := by
    cases hx : X.op with
    | none => rfl
    | some o => simp [Gp.view, hx] at ho
  refine (gbegin_ok p F X w h1 h2.up.1 hx h2.inv.tb4.1).mono ?_
  rintro e w1 ⟨rfl, h3⟩
  refine ⟨rfl, h3.gp ⟨?_, h2.row, h2.up⟩ ?_⟩
  · have := h2.inv
    simp only [Gp.old, Gp.fr, Gp.lf, Gp.tc, hx] at this
    exact this
  · simp [Gp.view, Rp.begun, Gp.begun, Gp.fr, Gp.tc, hx]
theorem gp_alloc_none (h : GP w p F x) (ho : x.was ≠ none) (hf : ∀ c ∈ x.now, c ≠ .no) :
    Calls Tryz.prog 14 #[.pointer (some ⟨p, 0, none⟩)] w fun e' w' => e' = .returned (.tuple #[.int .i64 0, .int .i64 21]) ∧ w = w' := by
  obtain ⟨X, h1, h2, rfl⟩ := h
  obtain ⟨o, hx⟩ := Gp.view_op ho
  refine galloc_none p F X w h1 (h2.rdy hx) h2.inv.tb4.1 fun s hs => ?_
  rintro rfl
  exact hf .no (List.mem_map.2 ⟨0, hs, rfl⟩) rfl
theorem Gp.entry_before {X : Gp} {i : Nat} (hf : ∀ (k : Nat) c, k < i → X.view.now[k]? = some c → c ≠ .no) : ∀ (k s : Nat), k < i → X.table[k]? = some s → s ≠ 0 := by
  rintro k s hk hs rfl
  exact hf k .no hk (Gp.entry_no.2 hs) rfl
theorem gp_alloc_full (h : GP w p F x) (ho : x.was ≠ none) (hi : x.now[i]? = some .no) (hf : ∀ (k : Nat) c, k < i → x.now[k]? = some c → c ≠ .no) (hm : x.room < (x.need (i / x.row) 0 : Nat)) :
    Calls Tryz.prog 14 #[.pointer (some ⟨p, 0, none⟩)] w fun e' w' => e' = .returned (.tuple #[.int .i64 0, .int .i64 21]) ∧ Grew w w' := by
  obtain ⟨X, h1, h2, rfl⟩ := h
  obtain ⟨o, hx⟩ := Gp.view_op ho
  exact galloc_full p i F X o w h1 (h2.rdy hx) hx h2.sz h2.inv.sz.2.1 (Gp.entry_no.1 hi) (Gp.entry_before hf) (by rw [h2.room, Gp.more_need h2 hx]; exact hm)
theorem gp_alloc_ok (h : GP w p F x) (ho : x.was ≠ none) (hi : x.now[i]? = some .no) (hf : ∀ (k : Nat) c, k < i → x.now[k]? = some c → c ≠ .no) (hm : (x.need (i / x.row) 0 : Nat) ≤ x.room) :
    Calls Tryz.prog 14 #[.pointer (some ⟨p, 0, none⟩)] w fun e' w' => e' = .returned (.tuple #[.int .i64 i, .int .i64 0]) ∧ GPTo w w' p F (x.put i .zero) := by
  obtain ⟨X, h1, h2, rfl⟩ := h
  obtain ⟨o, hx⟩ := Gp.view_op ho
  have hm' : (o.more (i / X.row) 0 : Nat) ≤ X.room := by rw [h2.room, Gp.more_need h2 hx]; exact hm
  refine (galloc_ok p i F X o w h1 (h2.rdy hx) hx h2.sz h2.inv.sz.2.1 (Gp.entry_no.1 hi) (Gp.entry_before hf) hm').mono ?_
  rintro e w1 ⟨rfl, h3⟩
  have := h2.alloc hx (Gp.entry_no.1 hi) hm'
  exact ⟨rfl, h3.gp this.1 this.2⟩

variable (bs : List Int) (Ab : Option Addr) (cb : Nat)
theorem gp_write (c : Pk) (h : GP w p F x) (ho : x.was ≠ none) (hi : x.now[i]? = some c) (hu : c.used = true) (hm : c.isNew = true ∨ (x.need (i / x.row) 1 : Nat) ≤ x.room)
    (hb : bs.length = x.sz) (hby : ∀ q ∈ bs, 0 ≤ q ∧ q ≤ 255) (hA : Ab ≠ none) (hsl : Sl w 1 Ab bs.length (bv bs)) (hsF : ∀ a, Ab = some a → ¬ F a.block) :
    Calls Tryz.prog 15 #[.pointer (some ⟨p, 0, none⟩), .int .i64 i, .slice Ab bs.length cb] w fun e' w' => e' = .returned (.int .i64 0) ∧ GPTo w w' p F (x.put i (.new bs)) := by
  obtain ⟨X, h1, h2, rfl⟩ := h
  obtain ⟨o, hx⟩ := Gp.view_op ho
  obtain ⟨s, hs, h0, rfl⟩ := Gp.entry_used hi hu
  have hv := h2.inv
  simp only [Gp.old, Gp.fr, Gp.lf, Gp.tc, hx] at hv
  have hfr : X.fr = o.fresh := by simp only [Gp.fr, hx]
  rw [hfr, pk_isNew X.D o.fresh s fun e => (hv.frr s e).1] at hm
  cases hf : o.fresh s with
  | true =>
    have := h2.put (bs := bs) hx hs hf hby
    refine (gwrite_fresh p i s bs Ab cb F X o w h1 (h2.rdy hx) hx h2.sz hs h0 hf (hv.frr s hf).2.1 h2.up.2.1 h2.up.2.2 h2.up.1 hb hA hsl hsF).mono ?_
    rintro e w1 ⟨rfl, h3⟩
    exact ⟨rfl, h3.gp this.1 this.2⟩
  | false =>
    rw [hf] at hm
    have hm' : (o.more (i / X.row) 1 : Nat) ≤ X.room := by
      rw [h2.room, Gp.more_need h2 hx]
      exact hm.resolve_left (by simp)
    have hr : X.room = (cnt X.free : Int) - (cntN o.touched 64 : Int) := by simp only [Gp.room, hx]
    have hm1 : 1 ≤ o.more (i / X.row) 1 := by unfold Cg.more; omega
    obtain ⟨j, hj, -, hjt⟩ := take_there (fe := X.free) (by omega)
    have := h2.fill (bs := bs) hx hs hf hjt hm' hby
    have hfree := hv.free hjt
    have hsn : s ≤ 1 ∨ s < X.D.n := by
      by_cases e : s ≤ 1
      · exact .inl e
      · refine .inr ?_
        rcases hv.cur i s hs (by omega) with e1 | e1
        · rw [hf] at e1; cases e1
        · exact hv.rO i s e1
    refine (gwrite_new p i s j bs Ab cb F X o w h1 (h2.rdy hx) hx h2.sz hs h0 hf hsn hj hfree.2.2.2.2.1 (by have := hv.lfle; omega) hm' h2.up.2.1 h2.up.2.2 h2.up.1 hb hA hsl hsF).mono ?_
    rintro e w1 ⟨rfl, h3⟩
    exact ⟨rfl, h3.gp this.1 this.2⟩
theorem gp_write_full (nb : Nat) (c : Pk) (h : GP w p F x) (ho : x.was ≠ none) (hi : x.now[i]? = some c) (hu : c.used = true) (hn : c.isNew = false) (hm : x.room < (x.need (i / x.row) 1 : Nat)) (hb : nb = x.sz) :
    Calls Tryz.prog 15 #[.pointer (some ⟨p, 0, none⟩), .int .i64 i, .slice Ab nb cb] w fun e' w' => e' = .returned (.int .i64 21) ∧ Grew w w' := by
  obtain ⟨X, h1, h2, rfl⟩ := h
  obtain ⟨o, hx⟩ := Gp.view_op ho
  obtain ⟨s, hs, h0, rfl⟩ := Gp.entry_used hi hu
  have hv := h2.inv
  simp only [Gp.old, Gp.fr, Gp.lf, Gp.tc, hx] at hv
  have hfr : X.fr = o.fresh := by simp only [Gp.fr, hx]
  rw [hfr, pk_isNew X.D o.fresh s fun e => (hv.frr s e).1] at hn
  have hsz := hv.sz
  have hsn : s < 4096 := by
    by_cases e : s ≤ 1
    · omega
    · rcases hv.cur i s hs (by omega) with e1 | e1
      · rw [hn] at e1; cases e1
      · have := hv.rO i s e1; omega
  exact gwrite_full p i s nb Ab cb F X o w h1 (h2.rdy hx) hx h2.sz hs h0 hn hsn hsz.2.1 (by rw [h2.room, Gp.more_need h2 hx]; exact hm) hb

/-- What reading a page leaves. -/
def RdOut (w w' : World) (p : Nat) (F : Nat → Prop) (x : Rp) (bs : List Int) (e : Ending) : Prop :=
  ∃ A c, e = .returned (.tuple #[.slice A x.sz c, .int .i64 0]) ∧ w'.ownsRow w.heap.size 5 1 (.slice A x.sz c) x.sz (bv bs) ∧ bs.length = x.sz ∧ (∀ q ∈ bs, 0 ≤ q ∧ q ≤ 255) ∧ GP w' p F x ∧ Chg F w w' ∧ ∀ a, A = some a → ¬ F a.block
theorem gp_read_none (i : Int) (h : GP w p F x) (hu : i < 0 ∨ x.now.length ≤ i ∨ x.now[i.toNat]? = some .no) :
    Calls Tryz.prog 19 #[.pointer (some ⟨p, 0, none⟩), .int .i64 i] w fun e' w' => e' = .returned (.tuple #[.slice none 0 0, .int .i64 14]) ∧ w = w' := by
  obtain ⟨X, h1, h2, rfl⟩ := h
  refine gread_none p i F X w h1 h2.up.1 h2.inv.tb4.1 ?_
  unfold Gp.usedB
  rcases hu with e | e | e
  · rw [decide_eq_false (by omega)]; rfl
  · have e2 : X.view.now.length = X.table.length := by simp [Gp.view]
    rw [e2] at e
    rw [List.getD_eq_getElem?_getD, List.getElem?_eq_none (by omega)]; simp
  · rw [List.getD_eq_getElem?_getD, Gp.entry_no.1 e]; simp
theorem gp_read (c : Pk) (h : GP w p F x) (hi : x.now[i]? = some c) (hu : c.used = true) :
    Calls Tryz.prog 19 #[.pointer (some ⟨p, 0, none⟩), .int .i64 i] w fun e' w' => RdOut w w' p F x (c.bytes x.sz) e' := by
  obtain ⟨X, h1, h2, rfl⟩ := h
  obtain ⟨s, hs, h0, rfl⟩ := Gp.entry_used hi hu
  have hv := h2.inv
  by_cases e1 : s = 1
  · subst e1
    refine (gread_one p i F X w h1 h2.up.1 hv.tb4.1 hs).mono ?_
    rintro e w1 ⟨A, c, rfl, ho, hg⟩
    refine ⟨A, c, rfl, ho, by simp [pk, Pk.bytes, Gp.view], fun q hq => by simp [pk, Pk.bytes] at hq; omega, ⟨X, h1.grew hg, h2, rfl⟩, hg.chg, fun a ha hf => ?_⟩
    subst ha
    have := (ho.lt a.block rfl).1
    have h3 := h1.lt _ hf
    omega
  · have hsn : s < X.D.n := by
      rcases hv.cur i s hs (by omega) with e | e
      · exact (hv.frr s e).2.1
      · exact hv.rO i s e
    have hb : (pk X.D X.fr s).bytes X.view.sz = X.D.rd (s : Int) := by
      unfold pk
      rw [if_neg h0, if_neg e1]
      split <;> rfl
    rw [hb]
    have hlen : (X.D.rd (s : Int)).length = X.D.sz := by
      obtain ⟨L, d, b, A, ca, vp, vt, vo, hG, -⟩ := h1
      exact hG.dsk.rd_len (by omega) (by omega)
    refine (gread_sec p i s F X w h1 h2.up.1 h2.up.2.1 hv.tb4.1 hs (by omega) hsn).mono ?_
    rintro e w1 ⟨A, c, rfl, ho, hg, hc, ha⟩
    exact ⟨A, c, rfl, ho, hlen, hv.byt s hsn, ⟨X, hg, h2, rfl⟩, hc, ha⟩
end

end Go.Proofs.YtjlkpeplldckoaaGreatDoor

/- A range over a map whose keys are ints (program-free). -/
namespace Go.Proofs.YtjlkpeplldckoaaGreatDoor
open Go.RowKit Go.Maps

/-- At it lies an iterator over the map at b: what it has not told yet. -/
def IIt (P : Program) (k : TypeId) (w : World) (b it : Nat) (m : Int → Option Value) (s : Nat) (left : Int → Bool) (cnt : Nat) : Prop :=
  ∃ D lf, w.ranges P k rdV b it s D lf cnt ∧ Maps.size D = s ∧ Vw D m ∧ left = fun i => lf (.int .i64 i)
/-- The block at it is an iterator's. -/
def It (w : World) (it : Nat) (o : Obj) : Prop := w.heap[it]? = some o ∧ ∃ b s c n, o = .mapIter b s c n

section
variable {P : Program} {k t e : TypeId} {w w' : World} {b it s cnt : Nat} {m : Int → Option Value} {left : Int → Bool} {o : Obj}
theorem It.book (h : It w it o) : Book w it := by
  obtain ⟨h, b, s, c, n, rfl⟩ := h
  exact ⟨_, h, rfl⟩
theorem It.chg {F : Nat → Prop} (h : It w it o) (hc : Chg F w w') (hF : ¬ F it) : It w' it o :=
  ⟨(hc.block it (Array.getElem?_eq_some_iff.1 h.1).1 hF).trans h.1, h.2⟩
theorem It.grew (h : It w it o) (hc : Grew w w') : It w' it o := h.chg hc id
theorem It.lt (h : It w it o) : it < w.heap.size := (Array.getElem?_eq_some_iff.1 h.1).1
theorem IIt.has (h : IIt P k w b it m s left cnt) : ∃ o, It w it o := by
  obtain ⟨D, lf, ⟨es, clock, since, seen, c0, hb, hf, hn, hD, hr, rest⟩, _⟩ := h
  exact ⟨_, hr, _, _, _, _, rfl⟩
theorem IIt.imap (h : IIt P k w b it m s left cnt) : IMap P k w b m s := by
  obtain ⟨D, lf, h, hs, hv, _⟩ := h
  exact ⟨D, h.owns, hs, hv⟩
/-- The map and the iterator are as they were. -/
theorem IIt.same (h : IIt P k w b it m s left cnt) {o : Obj} (ho : It w it o) (hb : w'.heap[b]? = w.heap[b]?) (ho' : It w' it o) : IIt P k w' b it m s left cnt := by
  obtain ⟨D, lf, ⟨es, clock, since, seen, c0, hb0, hf, hn, hD, hr, rest⟩, h2⟩ := h
  have : o = .mapIter (some b) since seen c0 := by
    have := ho.1
    rw [hr] at this
    exact (Option.some.inj this).symm
  subst this
  exact ⟨D, lf, ⟨es, clock, since, seen, c0, hb.trans hb0, hf, hn, hD, ho'.1, rest⟩, h2⟩
theorem IIt.left_eq (h : IIt P k w b it m s left cnt) : w.rangeLeft b it = cnt := by
  obtain ⟨D, lf, h, _⟩ := h
  exact h.left_eq

theorem IMap.range_ (h : IMap P k w b m s) (K : Keyed P k) (ht : P.underlying t = some (.map k e)) :
    ∃ w', (Instr.range t (.map (some b))).run P w = .ok (.pointer (some ⟨w.heap.size, 0, none⟩)) w' ∧ IIt P k w' b w.heap.size m s (fun i => (m i).isSome) s ∧ Grew w w' ∧ w'.heap.size = w.heap.size + 1 := by
  obtain ⟨D, ho, hs, hv⟩ := h
  obtain ⟨w', h1, h2, h3, h4⟩ := ho.range K ht
  refine ⟨w', h1, ⟨D, _, hs ▸ h2, hs, hv, funext fun i => ?_⟩, (Chg.refl NoF w).grown h3 (fun j hj => by cases hj), h4⟩
  cases hm : m i with
  | none => rw [hv.no i hm]; rfl
  | some v => rw [(hv.yes i v hm).1]; rfl

theorem wf_keyOf {i : Int} (hk : P.underlying k = some (.int .i64)) {kl : Lit} {key : Value} (h : keyOf P k key = some kl) : ∃ x, key = .int .i64 x ∧ kl = .int .i64 x ∧ (Lit.int .i64 x).wf = true := Maps.keyOf_int_inv hk h

theorem IIt.next (h : IIt P k w b it m s left cnt) (K : Keyed P k) (hk : P.underlying k = some (.int .i64)) (ty : TypeId) :
    (cnt = 0 ∧ (∀ i, left i = false) ∧ (Instr.next (.pointer (some ⟨it, 0, none⟩)) false ty).run P w = .ok (.tuple #[.bool false]) w) ∨
    ∃ i v w' cnt', left i = true ∧ m i = some v ∧ (Instr.next (.pointer (some ⟨it, 0, none⟩)) false ty).run P w = .ok (.tuple #[.bool true, .int .i64 i, v]) w' ∧
      IIt P k w' b it m s (fun j => left j && !decide (j = i)) cnt' ∧ cnt' < cnt ∧ Kept it w w' ∧ w'.heap.size = w.heap.size ∧ (Instr.entry (.pointer (some ⟨it, 0, none⟩))).run P w' = .ok (.tuple #[.int .i64 i, v]) w' := by
  obtain ⟨o, ho⟩ := h.has
  obtain ⟨D, lf, hr, hs, hv, rfl⟩ := h
  rcases hr.next K ty with ⟨h0, hl, hrun⟩ | ⟨key, v, kl, y, w', cnt', hkey, hlk, hvy, hat, hrun, hrg, hlt, hgr, hsz, hen⟩
  · exact .inl ⟨h0, fun i => hl _, hrun⟩
  · obtain ⟨x, rfl, rfl, hwx⟩ := Maps.keyOf_int_inv hk hkey
    simp only [rdV, Option.some.injEq] at hvy
    subst hvy
    have hmx : m x = some v := by
      cases hm : m x with
      | none =>
        have h1 := hat .nil
        rw [atKey_of_not_has (hv.no x hm)] at h1
        cases h1
      | some v' =>
        have h1 := hat .nil
        rw [(hv.yes x v' hm).2 .nil] at h1
        injection h1 with h1
        rw [h1]
    refine .inr ⟨x, v, w', cnt', hlk, hmx, hrun, ⟨D, _, hrg, hs, hv, funext fun j => ?_⟩, hlt, ⟨(Chg.refl (fun j => j = it) w).grown hgr fun j hj _ => by injection hj with hj; exact hj.symm, ho.book⟩, hsz, hen⟩
    have : ((Lit.int .i64 j).sameKey (.int .i64 x)) = decide (j = x) := by
      by_cases e : j = x
      · subst e
        rw [WideAt.sameKey_self (keyLit _)]
        simp
      · rw [show decide (j = x) = false from decide_eq_false e]
        cases hsk : (Lit.int .i64 j).sameKey (.int .i64 x) with
        | false => rfl
        | true => simp [Lit.sameKey] at hsk; exact absurd hsk e
    simp [this]

variable {F : Fence} {n : Nat} {ops : Array Oper} {rest : List Oper} {op : Oper} {a : Act} {Q : Exit → Act → World → Prop}
/-- 'range m', at the operation. -/
theorem wpListIn_range_im (hg : op.guard = none) (mo : Operand) (t : TypeId) (hop : op.op = Op.range t mo) (h : IMap P k w b m s) (K : Keyed P k) (ht : P.underlying t = some (.map k e)) (hm : a.eval mo = .map (some b))
    (hK : ∀ w', IIt P k w' b w.heap.size m s (fun i => (m i).isSome) s → Grew w w' → w'.heap.size = w.heap.size + 1 → wpListIn F n P ops Q rest (a.put op.dst (.pointer (some ⟨w.heap.size, 0, none⟩))) w') :
    wpListIn F n P ops Q (op :: rest) a w := by
  refine wpListIn_plain hg fun K' hK' => ?_
  obtain ⟨w', hrun, r1, r2, r3⟩ := h.range_ K ht
  unfold Oper.wpIn
  refine ⟨by simp [Oper.about, hop], ?_⟩
  rw [Oper.semAt_plain F _ _ (by rw [hop]; intro c hc'; cases hc')]
  simp [execOp, hop, hm, hrun, Result.andThen]
  exact hK' _ _ (hK w' r1 r2 r3)
/-- The range's step. -/
theorem wpListIn_next_im (hg : op.guard = none) (ito : Operand) (hop : op.op = Op.next ito false) (h : IIt P k w b it m s left cnt) (K : Keyed P k) (hk : P.underlying k = some (.int .i64)) (hit : a.eval ito = .pointer (some ⟨it, 0, none⟩))
    (hDone : cnt = 0 → (∀ i, left i = false) → wpListIn F n P ops Q rest (a.put op.dst (.tuple #[.bool false])) w)
    (hMore : ∀ (i : Int) (v : Value) (w' : World) (cnt' : Nat), left i = true → m i = some v → IIt P k w' b it m s (fun j => left j && !decide (j = i)) cnt' → cnt' < cnt → Kept it w w' → w'.heap.size = w.heap.size → (Instr.entry (.pointer (some ⟨it, 0, none⟩))).run P w' = .ok (.tuple #[.int .i64 i, v]) w' → wpListIn F n P ops Q rest (a.put op.dst (.tuple #[.bool true, .int .i64 i, v])) w') :
    wpListIn F n P ops Q (op :: rest) a w := by
  refine wpListIn_plain hg fun K' hK' => ?_
  unfold Oper.wpIn
  refine ⟨by simp [Oper.about, hop], ?_⟩
  rw [Oper.semAt_plain F _ _ (by rw [hop]; intro c hc'; cases hc')]
  rcases h.next K hk op.type with ⟨h0, hl, hrun⟩ | ⟨i, v, w', cnt', h1, h2, hrun, h3, h4, h5, h6, h7⟩
  · simp [execOp, hop, hit, hrun, Result.andThen]
    exact hK' _ _ (hDone h0 hl)
  · simp [execOp, hop, hit, hrun, Result.andThen]
    exact hK' _ _ (hMore i v w' cnt' h1 h2 h3 h4 h5 h6 h7)
end

end Go.Proofs.YtjlkpeplldckoaaGreatDoor

/- The pager: Abort. -/
namespace Go.Proofs.YtjlkpeplldckoaaGreatDoor
open Go.RowKit Go.Maps

/-- A pool into which some are given back. -/
def gvn (fe : List Bool) (f : Nat → Bool) : List Bool := (List.range fe.length).map fun s => fe.getD s false || f s
theorem gvn_len (fe : List Bool) (f : Nat → Bool) : (gvn fe f).length = fe.length := by simp [gvn]
theorem gvn_at (fe : List Bool) (f : Nat → Bool) (s : Nat) : (gvn fe f).getD s false = (decide (s < fe.length) && (fe.getD s false || f s)) := by
  unfold gvn
  rw [List.getD_eq_getElem?_getD, List.getElem?_map]
  by_cases h : s < fe.length
  · rw [List.getElem?_range h]; simp [h]
  · rw [List.getElem?_eq_none (by simpa using h)]; simp [h]
theorem list_getD {a b : List Bool} (hl : a.length = b.length) (h : ∀ s, s < a.length → a.getD s false = b.getD s false) : a = b := by
  apply List.ext_getElem hl
  intro i h1 h2
  have := h i h1
  rw [List.getD_eq_getElem?_getD, List.getD_eq_getElem?_getD, List.getElem?_eq_getElem h1, List.getElem?_eq_getElem h2] at this
  simpa using this
theorem gvn_none (fe : List Bool) : gvn fe (fun _ => false) = fe := list_getD (gvn_len _ _) fun s hs => by
  rw [gvn_len] at hs
  rw [gvn_at]; simp [hs]
theorem gvn_more (fe : List Bool) (f : Nat → Bool) (s : Nat) (hs : s < fe.length) (h1 : fe.getD s false = false) (h2 : f s = false) : trn (gvn fe f) s = gvn fe (setB f s true) := by
  have hg : (gvn fe f).getD s false = false := by rw [gvn_at, h1, h2]; simp
  refine list_getD (by simp [trn, gvn_len]) fun j hj => ?_
  rw [trn_getD (by rw [gvn_len]; exact hs), gvn_at fe (setB f s true), hg]
  have hj' : j < fe.length := by simpa [trn, gvn_len] using hj
  by_cases e : j = s
  · subst e; simp [setB, hs]
  · rw [if_neg e, gvn_at]; simp [setB, e]
theorem gvn_give (fe : List Bool) (f : Nat → Bool) (s : Nat) (hs : s < fe.length) (h1 : fe.getD s false = false) (h2 : f s = false) : toL (gvn fe f) (s : Int) true = (gvn fe (setB f s true), 0) := by
  unfold toL
  rw [gvn_len, if_neg (by omega), Int.toNat_natCast, if_neg (by rw [gvn_at, h1, h2]; simp), gvn_more fe f s hs h1 h2]

/-- A change given up. -/
def Gp.abort (X : Gp) (o : Cg) : Gp := { X with table := o.was, free := gvn X.free o.fresh, op := none }
/-- What has been given back so far. -/
def gvF (fr : Nat → Bool) (left : Int → Bool) : Nat → Bool := fun s => fr s && !left (s : Int)
theorem gvF_start (fr : Nat → Bool) : gvF fr (fun i => (mB fr i).isSome) = fun _ => false := by
  funext s
  show (fr s && !(mB fr (s : Int)).isSome) = false
  rw [mB_nat]
  cases fr s <;> rfl
theorem gvF_end (fr : Nat → Bool) (left : Int → Bool) (h : ∀ i, left i = false) : gvF fr left = fr := by
  funext s
  unfold gvF
  rw [h]; simp
theorem gvF_step (fr : Nat → Bool) (left : Int → Bool) (s : Nat) (hf : fr s = true) : gvF fr (fun j => left j && !decide (j = (s : Int))) = setB (gvF fr left) s true := by
  funext j
  unfold gvF setB
  by_cases e : j = s
  · subst e; simp [hf]
  · have : ¬ (j : Int) = (s : Int) := by omega
    simp [e, this]

section
variable {w w' : World} {L : Nat → Nat} {p d b ca c M1 s1 M2 s2 : Nat} {X : Gp} {o : Cg} {A : Option Addr} {vp vt vw vl : Value} {F : Nat → Prop}
/-- The change is dropped: its table is the pager's. -/
theorem GIn.abort (h : GIn w L p X d b A ca vp vt (some ⟨c, 0, none⟩)) (hi : ChIn w L o c vw M1 s1 vl M2 s2) (hF : ∀ j, F j ↔ L j ≠ 0) :
    GTo w ((w.setCell ⟨p, 4, none⟩ vw).setCell ⟨p, 6, none⟩ (.pointer none)) p F { X with table := o.was, op := none } := by
  have hc : Chg (fun j => j = p) w ((w.setCell ⟨p, 4, none⟩ vw).setCell ⟨p, 6, none⟩ (.pointer none)) := ((Chg.refl (fun j => j = p) w).setCell (p := ⟨p, 4, none⟩) (fun _ => rfl) _).setCell (p := ⟨p, 6, none⟩) (fun _ => rfl) _
  have hcL : Chg (fun j => L j = 1) w ((w.setCell ⟨p, 4, none⟩ vw).setCell ⟨p, 6, none⟩ (.pointer none)) := hc.mono fun i _ e => e ▸ h.lp
  obtain ⟨L', hL'⟩ : ∃ L' : Nat → Nat, L' = fun j => if L j = 7 then 5 else if L j ≤ 4 then L j else 0 := ⟨_, rfl⟩
  have lo : ∀ j m, m ≠ 0 → m ≤ 4 → (L' j = m ↔ L j = m) := fun j m h0 h4 => by
    rw [hL']
    dsimp only
    split
    · omega
    · split <;> omega
  have hset : ∀ m, m ≠ 0 → m ≤ 4 → (fun j => L' j = m) = (fun j => L j = m) := fun m h1 h2 => funext fun j => propext (lo j m h1 h2)
  have l5 : ∀ j, L j = 7 → L' j = 5 := fun j hj => by rw [hL']; simp [hj]
  have lz : ∀ j, L' j ≠ 0 → L j ≠ 0 := fun j hj e => by rw [hL'] at hj; simp [e] at hj
  have hgi : GIn ((w.setCell ⟨p, 4, none⟩ vw).setCell ⟨p, 6, none⟩ (.pointer none)) L' p { X with table := o.was, op := none } d b A ca vp vw none := by
    refine ⟨?_, (lo p 1 (by omega) (by omega)).2 h.lp, ?_, h.pol.chg hcL fun j hj e => by have := h.lo j hj; omega, fun j hj => (lo j 3 (by omega) (by omega)).2 (h.lo j hj), own_lab h.pgs h.lg hcL (by omega), fun j hj => (lo j 4 (by omega) (by omega)).2 (h.lg j hj),
      own_lab hi.was hi.lw hcL (by omega), fun j hj => l5 j (hi.lw j hj), rfl, fun j hj => Nat.lt_of_lt_of_le (h.lt j (lz j hj)) hc.size, ?_, tab_chg h.tab hcL (by rw [h.l0]; omega)⟩
    · have := (h.blk.put 4 vw).put 6 (.pointer none)
      simpa using this
    · rw [hset 2 (by omega) (by omega)]
      exact h.dsk.chg hcL fun j hj e => by omega
    · rw [hL']; simp [h.l0]
  exact ⟨fun j => L' j ≠ 0, hgi.gs, hc.mono fun i _ e => (hF i).2 (by rw [e, h.lp]; omega), fun j hj => .inl ((hF j).2 (lz j hj))⟩
end

set_option maxRecDepth 100000 in
set_option maxHeartbeats 3200000 in
theorem gabort_ok (p : Nat) (F : Nat → Prop) (X : Gp) (o : Cg) (w : World) (h : GS w p F X) (hok : X.Ok) (hx : X.op = some o) :
    Calls Tryz.prog 18 #[.pointer (some ⟨p, 0, none⟩)] w fun e' w' => e' = .returned (.int .i64 0) ∧ GTo w w' p F (X.abort o) := by
  have hrd := gready_any p F X w h
  rw [hok.rdy hx] at hrd
  have hv := hok.inv
  simp only [Gp.old, Gp.fr, Gp.lf, Gp.tc, hx] at hv
  obtain ⟨L, d, b, A, ca, vp, vt, vo, h, hF⟩ := h
  have ho := h.opn
  rw [hx] at ho
  obtain ⟨c, vw, M1, s1, vl, M2, s2, rfl, hi2⟩ := ho
  obtain ⟨c0, f0, s0⟩ := h.blk.facts
  obtain ⟨c1, f1, s1'⟩ := hi2.blk.facts
  obtain ⟨W1, hrg, hI1, hg1, hz1⟩ := hi2.fr.range_ (t := 60) kInt Tryz.underlying60
  have hfl : ∀ s, o.fresh s = true → 2 ≤ s ∧ s < X.free.length ∧ X.free.getD s false = false := fun s hs => by
    have := hv.frr s hs
    exact ⟨this.1, by rw [hv.lens.1]; exact this.2.1, (hv.acct s this.2.1).2 (.inr (.inr (.inr hs)))⟩
  have hxl : X.free.length ≤ 4096 := by rw [hv.lens.1]; exact hv.sz.2.1
  obtain ⟨it, hit⟩ : ∃ it, w.heap.size = it := ⟨_, rfl⟩
  rw [hit] at hI1 hrg
  have HX := Lib.hid hx
  have H := Lib.hid (And.intro hrd (And.intro h (And.intro hi2 (And.intro hF (And.intro hfl (And.intro hI1 (And.intro hg1 (And.intro hz1 hit))))))))
  clear h hrd hx hv hok hi2 hF hfl hI1 hg1 hz1 hit
  go_enter Tryz.func18, Tryz.ntmps18
  go_wp2_with (go_at_call 32; (refine H.out.1.mono ?_); rintro e w1 ⟨rfl, rfl⟩)
  have hG1 : GIn W1 L p { X with free := gvn X.free (gvF o.fresh fun i => (mB o.fresh i).isSome) } d b A ca vp vt (some ⟨c, 0, none⟩) := by
    rw [gvF_start, gvn_none]
    exact H.out.2.1.grew H.out.2.2.2.2.2.2.1
  have HG1 := Lib.hid hG1
  clear hG1 c0 f0 s0 c1 f1 s1'
  go_loopg [] s1 (fun q wr => ∃ left : Int → Bool, GIn wr L p { X with free := gvn X.free (gvF o.fresh left) } d b A ca vp vt (some ⟨c, 0, none⟩) ∧ IIt Tryz.prog 3 wr M1 it (mB o.fresh) s1 left q ∧ Chg (fun j => L j = 3) w wr)
  case atStart => exact ⟨_, HG1.out, H.out.2.2.2.2.2.1, H.out.2.2.2.2.2.2.1.chg⟩
  case round =>
    obtain ⟨left, hG, hI, hC⟩ := hrel
    obtain ⟨ob, hob⟩ := hI.has
    have hitl : w.heap.size ≤ it := by rw [H.out.2.2.2.2.2.2.2.2]; exact Nat.le_refl _
    have hLit : ∀ j, L j ≠ 0 → j ≠ it := fun j hj e => by have := H.out.2.1.lt j hj; omega
    rcases hI.next kInt Tryz.underlying3 0 with ⟨h0, hl, hrun⟩ | ⟨i, v, w3, q', hli, hmi, hrun, hI3, hq, hk3, hz3, hen⟩
    · have HD := Lib.hid (And.intro hG (And.intro hl hC))
      clear hG hI hC hl hob
      have hop := HD.out.1.opn
      rw [show ({ X with free := gvn X.free (gvF o.fresh left) } : Gp).op = some o from HX.out] at hop
      obtain ⟨c', vw', M1', s1'', vl', M2', s2'', hce, hi3⟩ := hop
      obtain rfl : c = c' := by injection hce with e; injection e
      obtain ⟨c0, f0, s0⟩ := HD.out.1.blk.facts
      obtain ⟨c1, f1, s1'⟩ := hi3.blk.facts
      obtain ⟨Aw, cw, rfl, -⟩ := own_shape hi3.was
      have HI3 := Lib.hid hi3
      clear hi3 hce
      go_wp2
      go_ret
      refine ⟨rfl, To.then (F1 := F) (HD.out.2.2.mono fun j _ e => (H.out.2.2.2.1 j).2 (by omega)) (fun j hj => .inl hj) ?_⟩
      have := HD.out.1.abort HI3.out H.out.2.2.2.1
      rw [gvF_end _ _ HD.out.2.1] at this
      exact this
    · have hnt : ∃ s : Nat, i = (s : Int) ∧ o.fresh s = true := by
        unfold mB at hmi
        split at hmi
        · rename_i hh
          exact ⟨i.toNat, by omega, hh.2⟩
        · cases hmi
      obtain ⟨s, rfl, hfs⟩ := hnt
      have hG3 : GIn w3 L p { X with free := gvn X.free (gvF o.fresh left) } d b A ca vp vt (some ⟨c, 0, none⟩) := hG.chg hk3.chg hLit (fun e => by have := tab_pos H.out.2.1.tab; omega)
      have hfl := H.out.2.2.2.2.1 s hfs
      have hgv := pgive_any b s _ A ca w3 hG3.pol (by show (gvn X.free _).length ≤ 65536; rw [gvn_len]; omega)
      have htl := gvn_give X.free (gvF o.fresh left) s hfl.2.1 hfl.2.2 (by unfold gvF; rw [hfs, hli]; rfl)
      have hgv2 : Calls Tryz.prog 43 #[.pointer (some ⟨b, 0, none⟩), .int .i64 (s : Int)] w3 fun e w' => e = .returned (.int .i64 0) ∧ PIn w' b (gvn X.free (setB (gvF o.fresh left) s true)) A ca ∧ Chg (PF b A) w3 w' := by
        rw [← show (toL (gvn X.free (gvF o.fresh left)) (s : Int) true).1 = gvn X.free (setB (gvF o.fresh left) s true) from by rw [htl]]
        refine hgv.mono fun e w' h => ?_
        rw [show (toL ({ X with free := gvn X.free (gvF o.fresh left) } : Gp).free (s : Int) true) = (gvn X.free (setB (gvF o.fresh left) s true), 0) from htl] at h
        rw [htl]
        exact h
      have HR := Lib.hid (And.intro hG3 (And.intro hI3 (And.intro hk3 (And.intro hC (And.intro hgv2 (And.intro hfs hLit))))))
      obtain ⟨c0, f0, s0⟩ := hG3.blk.facts
      clear hG hI hob hG3 hI3 hk3 hC hgv hgv2 htl hfl hli hmi hfs hLit
      go_wp2_with (go_at_call 43; (refine HR.out.2.2.2.2.1.mono ?_); rintro e w4 ⟨rfl, h4, h5⟩; have H4 := Lib.hid (And.intro h4 h5); clear h4 h5 c0 f0 s0)
      obtain ⟨hG4, ht4⟩ := HR.out.1.pool H4.out.1 H4.out.2
      obtain ⟨ob3, hob3⟩ := HR.out.2.1.has
      have h3F : ∀ j, PF b A j → L j = 3 := H.out.2.1.lo
      have hob4 : It w4 it ob3 := hob3.chg H4.out.2 (fun e => HR.out.2.2.2.2.2.2 it (by have := h3F it e; omega) rfl)
      have hI4 := HR.out.2.1.same hob3 (H4.out.2.block M1 HR.out.2.1.imap.lt (fun e => by have := h3F M1 e; have := H.out.2.2.1.lf; omega)) hob4
      go_roundg q'
      case measure => exact hq
      case rel =>
        refine ⟨_, ?_, hI4, Chg.trans (HR.out.2.2.2.1.kept HR.out.2.2.1 hitl) ht4.chg fun j _ e => e⟩
        rw [gvF_step _ _ s HR.out.2.2.2.2.2.1]
        exact hG4

end Go.Proofs.YtjlkpeplldckoaaGreatDoor

/- How an iterator ends. -/
namespace Go.Proofs.YtjlkpeplldckoaaGreatDoor
open Go.RowKit

/-- How an iterator ends. -/
def IterEnd (J Jx : World → Prop) (e : Ending) (w : World) : Prop := (∃ v, e = .returned v) ∧ (J w ∨ Jx w)
/-- How a round ends. -/
def Rounded (J Jx : World → Prop) (e : Ending) (w : World) : Prop := (e = .returned (.bool true) ∧ J w) ∨ (e = .returned (.bool false) ∧ Jx w)

theorem rangeEnd_block {P : Program} {l id : Nat} {r : Loop} {Q : Exit → Act → World → Prop} {a : Act} {w3 : World}
    (h : Rec w3 l (Loop.at_ r .ready none) ∨ Rec w3 l (Loop.at_ r .done (some (.exit id)))) (hk : ∀ w4, Kept l w3 w4 → Q .normal a w4) : rangeEnd P l r (Exit.inBlock id Q) a w3 := by
  rcases h with h | h
  · exact .inl ⟨h, fun w4 k => hk w4 k⟩
  · exact .inr ⟨_, h, fun w4 k => wp_exit (by simpa [Exit.inBlock] using hk w4 k)⟩

end Go.Proofs.YtjlkpeplldckoaaGreatDoor

/- Contracts of the library that the kit has proved once, laid at this seat (printed by the kit's lay-plain through lay.py). -/
namespace Go.Proofs.YtjlkpeplldckoaaGreatDoor
open Go.Shelf
def sortInt_ren : Go.Shelf.Ren := ⟨fun | 189 => 82 | 125 => 93 | 257 => 92 | 128 => 103 | 129 => 104 | 294 => 94 | 295 => 95 | 296 => 96 | 297 => 97 | 298 => 98 | 299 => 99 | 216 => 100 | 300 => 101 | 301 => 102 | 328 => 105 | 329 => 106 | 330 => 107 | 331 => 108 | 332 => 109 | 215 => 110 | 343 => 111 | n => n, fun | 28 => 48 | 3 => 3 | 46 => 79 | 0 => 0 | 51 => 104 | 53 => 75 | 4 => 4 | 183 => 130 | 182 => 129 | 131 => 91 | 5 => 5 | 9 => 9 | 218 => 136 | 222 => 140 | 228 => 142 | 229 => 30 | n => n, fun | n => n⟩
theorem sortInt : Go.Proofs.Lays.n189 Tryz.prog sortInt_ren := {
  mixed := by kernel_rfl
  f125 := Tryz.func93.trans (congrArg some (by kernel_rfl))
  f128 := Tryz.func103.trans (congrArg some (by kernel_rfl))
  f129 := Tryz.func104.trans (congrArg some (by kernel_rfl))
  f189 := Tryz.func82.trans (congrArg some (by kernel_rfl))
  f215 := Tryz.func110.trans (congrArg some (by kernel_rfl))
  f216 := Tryz.func100.trans (congrArg some (by kernel_rfl))
  f257 := Tryz.func92.trans (congrArg some (by kernel_rfl))
  f294 := Tryz.func94.trans (congrArg some (by kernel_rfl))
  f295 := Tryz.func95.trans (congrArg some (by kernel_rfl))
  f296 := Tryz.func96.trans (congrArg some (by kernel_rfl))
  f297 := Tryz.func97.trans (congrArg some (by kernel_rfl))
  f298 := Tryz.func98.trans (congrArg some (by kernel_rfl))
  f299 := Tryz.func99.trans (congrArg some (by kernel_rfl))
  f300 := Tryz.func101.trans (congrArg some (by kernel_rfl))
  f301 := Tryz.func102.trans (congrArg some (by kernel_rfl))
  f328 := Tryz.func105.trans (congrArg some (by kernel_rfl))
  f329 := Tryz.func106.trans (congrArg some (by kernel_rfl))
  f330 := Tryz.func107.trans (congrArg some (by kernel_rfl))
  f331 := Tryz.func108.trans (congrArg some (by kernel_rfl))
  f332 := Tryz.func109.trans (congrArg some (by kernel_rfl))
  f343 := Tryz.func111.trans (congrArg some (by kernel_rfl))
  t0 := Tryz.underlying0
  a0 := Tryz.isAgg0
  z0 := Tryz.sizeOf0
  v0 := Tryz.zeroValue0
  t3 := Tryz.underlying3
  a3 := Tryz.isAgg3
  z3 := Tryz.sizeOf3
  v3 := Tryz.zeroValue3
  t4 := Tryz.underlying4
  a4 := Tryz.isAgg4
  z4 := Tryz.sizeOf4
  v4 := Tryz.zeroValue4
  t5 := Tryz.underlying5
  a5 := Tryz.isAgg5
  z5 := Tryz.sizeOf5
  v5 := Tryz.zeroValue5
  t9 := Tryz.underlying9
  a9 := Tryz.isAgg9
  z9 := Tryz.sizeOf9
  v9 := Tryz.zeroValue9
  t28 := Tryz.underlying48
  a28 := Tryz.isAgg48
  z28 := Tryz.sizeOf48
  v28 := Tryz.zeroValue48
  t46 := Tryz.underlying79
  a46 := Tryz.isAgg79
  z46 := Tryz.sizeOf79
  v46 := Tryz.zeroValue79
  t51 := Tryz.underlying104
  a51 := Tryz.isAgg104
  z51 := Tryz.sizeOf104
  v51 := Tryz.zeroValue104
  t53 := Tryz.underlying75
  a53 := Tryz.isAgg75
  z53 := Tryz.sizeOf75
  v53 := Tryz.zeroValue75
  t131 := Tryz.underlying91
  a131 := Tryz.isAgg91
  z131 := Tryz.sizeOf91
  v131 := Tryz.zeroValue91
  t182 := Tryz.underlying129
  a182 := Tryz.isAgg129
  z182 := Tryz.sizeOf129
  v182 := Tryz.zeroValue129
  t183 := Tryz.underlying130
  a183 := Tryz.isAgg130
  z183 := Tryz.sizeOf130
  v183 := Tryz.zeroValue130
  t218 := Tryz.underlying136
  a218 := Tryz.isAgg136
  z218 := Tryz.sizeOf136
  v218 := Tryz.zeroValue136
  t222 := Tryz.underlying140
  a222 := Tryz.isAgg140
  z222 := Tryz.sizeOf140
  v222 := Tryz.zeroValue140
  t228 := Tryz.underlying142
  a228 := Tryz.isAgg142
  z228 := Tryz.sizeOf142
  v228 := Tryz.zeroValue142
  t229 := Tryz.underlying30
  a229 := Tryz.isAgg30
  z229 := Tryz.sizeOf30
  v229 := Tryz.zeroValue30 }
end Go.Proofs.YtjlkpeplldckoaaGreatDoor

/- The keys of a set of numbers, told by its map, collected, sorted. -/
namespace Go.Proofs.YtjlkpeplldckoaaGreatDoor
open Go.RowKit Go.Maps
attribute [local go_sem] Oper.semAt_some

/-- What the iterator has told, and what is left. -/
structure ToldK (f : Nat → Bool) (xs : List Nat) (left : Int → Bool) : Prop where
  nd : xs.Nodup
  sub : ∀ s ∈ xs, f s = true
  left : ∀ i, left i = true ↔ 0 ≤ i ∧ f i.toNat = true ∧ i.toNat ∉ xs
theorem ToldK.start (f : Nat → Bool) : ToldK f [] (fun i => (mB f i).isSome) :=
  ⟨List.nodup_nil, fun _ h => (by cases h), fun i => by
    unfold mB
    by_cases h : 0 ≤ i ∧ f i.toNat = true
    · rw [if_pos h]; simp [h]
    · rw [if_neg h]
      simp only [Option.isSome_none, Bool.false_eq_true, List.not_mem_nil, not_false_eq_true, and_true, false_iff]
      exact h⟩
theorem ToldK.next {f : Nat → Bool} {xs : List Nat} {left : Int → Bool} (h : ToldK f xs left) {i : Int} (hl : left i = true) : ∃ s : Nat, i = (s : Int) ∧ f s = true ∧ s ∉ xs ∧ ToldK f (xs ++ [s]) (fun j => left j && !decide (j = i)) := by
  obtain ⟨h0, h1, h2⟩ := (h.left i).1 hl
  refine ⟨i.toNat, by omega, h1, h2, List.nodup_append.2 ⟨h.nd, by simp, fun a ha b hb e => by simp at hb; subst hb; subst e; exact h2 ha⟩, fun s hs => ?_, fun j => ?_⟩
  · rcases List.mem_append.1 hs with e | e
    · exact h.sub s e
    · simp only [List.mem_singleton] at e; subst e; exact h1
  · simp only [Bool.and_eq_true, h.left j, Bool.not_eq_true', decide_eq_false_iff_not, List.mem_append, List.mem_singleton, not_or]
    constructor
    · rintro ⟨⟨a, b, c⟩, d⟩; exact ⟨a, b, c, fun e => d (by omega)⟩
    · rintro ⟨a, b, c, d⟩; exact ⟨⟨a, b, c⟩, fun e => d (by rw [e])⟩
/-- The numbers of a set, rising. -/
def keysL (f : Nat → Bool) (N : Nat) : List Nat := (List.range N).filter f
theorem ToldK.done {f : Nat → Bool} {xs : List Nat} {left : Int → Bool} {N : Nat} (h : ToldK f xs left) (hl : ∀ i, left i = false) (hN : ∀ s, f s = true → s < N) : xs.Perm (keysL f N) := by
  refine (List.perm_ext_iff_of_nodup h.nd (List.nodup_range.filter _)).2 fun s => ?_
  show s ∈ xs ↔ s ∈ (List.range N).filter f
  rw [List.mem_filter, List.mem_range]
  constructor
  · intro e; exact ⟨hN s (h.sub s e), h.sub s e⟩
  · rintro ⟨-, e⟩
    by_cases hm : s ∈ xs
    · exact hm
    · have := (h.left (s : Int)).2 ⟨by omega, by simpa using e, by simpa using hm⟩
      rw [hl] at this
      cases this
theorem ToldK.len {f : Nat → Bool} {xs : List Nat} {left : Int → Bool} {N : Nat} (h : ToldK f xs left) (hN : ∀ s, f s = true → s < N) : xs.length ≤ N := by
  have := List.Nodup.length_le_of_subset h.nd (l₂ := List.range N) fun s hs => List.mem_range.2 (hN s (h.sub s hs))
  rwa [List.length_range] at this

theorem mkeys_any (R : Nat) (w W : World) (hW : w.alloc (.cells #[.map (some R)] 60) = W) :
    Calls Tryz.prog 62 #[.map (some R)] w fun e w' => e = .returned (.func (.func 83) #[] #[.pointer (some ⟨w.heap.size, 0, none⟩)]) ∧ W = w' := by
  subst hW
  go_enter Tryz.func62, Tryz.ntmps62
  go_wp2
  go_ret
  exact ⟨rfl, rfl⟩

set_option maxRecDepth 100000 in
set_option maxHeartbeats 800000 in
theorem mkeys_iter (bb y R s0 N : Nat) (f : Nat → Bool) (J : List Nat → World → Prop) (w : World) (hN : ∀ s, f s = true → s < N)
    (hin : ∀ xs W, J xs W → Blk W bb 60 #[.map (some R)] ∧ IMap Tryz.prog 3 W R (mB f) s0)
    (hgr : ∀ xs W W', J xs W → Grew W W' → J xs W')
    (hkp : ∀ xs W W' it, J xs W → w.heap.size ≤ it → Kept it W W' → J xs W')
    (hyld : ∀ xs s W it o, J xs W → It W it o → w.heap.size ≤ it → f s = true → xs.length < N → YieldAt Fence.wide 0 Tryz.prog y #[.int .i64 s] W fun e w' => e = .returned (.bool true) ∧ J (xs ++ [s]) w' ∧ It w' it o ∧ w'.heap[R]? = W.heap[R]?)
    (h0 : J [] w) :
    Calls Tryz.prog 83 #[.func (.yield y) #[] #[], .pointer (some ⟨bb, 0, none⟩)] w fun e w' => (∃ v, e = .returned v) ∧ ∃ xs, xs.Perm (keysL f N) ∧ J xs w' := by
  obtain ⟨c1, f1, s1⟩ := (hin [] w h0).1.facts
  have HM := Lib.hid (hin [] w h0).2
  have Hgr := Lib.hid hgr
  have Hkp := Lib.hid hkp
  have Hyld := Lib.hid hyld
  have H0 := Lib.hid h0
  have HN := Lib.hid hN
  clear hin hgr hyld h0 hkp hN
  (refine (callsIn_wide (n := 1)).1 (callsIn_of_wp Tryz.func83 rfl trivial ?_ rfl); simp only [Tryz.ntmps83, List.size_toArray, List.length_cons, List.length_nil, Nat.reduceAdd, Nat.reduceSub, Array.replicate_succ, Array.replicate_zero, List.push_toArray, List.append_toArray, List.nil_append, List.cons_append])
  gi_wp2_with (gi_at_range; refine wpListIn_range_im rfl _ 60 rfl HM.out kInt Tryz.underlying60 (by rfl) ?_; intro w1 hi1 hg1 hz1)
  have HJ1 := Lib.hid (Hgr.out _ _ _ H0.out hg1)
  have HI1 := Lib.hid hi1
  clear hi1 hg1 c1 f1 s1
  go_frame
  gi_loopg [3] s0 (fun n v wr => ∃ (cnt : Nat) (xs : List Nat) (left : Int → Bool), cnt ≤ n ∧ J xs wr ∧ IIt Tryz.prog 3 wr R w.heap.size (mB f) s0 left cnt ∧ ToldK f xs left)
  case atStart => exact ⟨s0, [], _, Nat.le_refl _, HJ1.out, HI1.out, ToldK.start f⟩
  case round =>
    obtain ⟨cnt, xs, left, hcn, hJ, hI, hT⟩ := hrel
    have HJ := Lib.hid hJ
    have HI := Lib.hid hI
    have HT := Lib.hid hT
    clear hJ hI hT
    gi_wp2_with (gi_at_next; refine wpListIn_next_im rfl _ rfl HI.out kInt Tryz.underlying3 rfl ?_ ?_)
    · intro hc0 hl0
      have HL0 := Lib.hid hl0
      clear hc0 hl0
      gi_wp2
      refine bodyPost_end (results_none rfl _ _ _) rfl ?_
      exact ⟨⟨_, rfl⟩, xs, HT.out.done HL0.out HN.out, HJ.out⟩
    · intro i v w2 cnt2 hl hv hi2 hlt hk2 hz2 hen
      obtain ⟨s, rfl, hs, hsx, hT2⟩ := HT.out.next hl
      have HJ2 := Lib.hid (Hkp.out _ _ _ _ HJ.out (Nat.le_refl _) hk2)
      have HI2 := Lib.hid hi2
      have HT2 := Lib.hid hT2
      obtain ⟨o, ho⟩ := hi2.has
      have HO := Lib.hid ho
      have hxl : xs.length < N := by
        have h1 : (xs ++ [s]).length ≤ N := hT2.len HN.out
        rw [List.length_append] at h1
        exact h1
      obtain ⟨fn, tmps, assign, body, hy, hR⟩ := Hyld.out xs s _ w.heap.size o HJ2.out HO.out (Nat.le_refl _) hs hxl
      have HR := Lib.hid hR
      clear hl hv hi2 hk2 hT2 ho hs hsx hR hxl
      gi_wp2_with (refine HR.out.mono ?_; rintro e w3 ⟨rfl, hJ3, hO3, hR3⟩; have HJ3 := Lib.hid (And.intro hJ3 (And.intro hO3 hR3)); clear hJ3 hO3 hR3)
      gi_roundg cnt2
      case measure => omega
      case rel => exact ⟨cnt2, _, _, Nat.le_refl _, HJ3.out.1, HI2.out.same HO.out HJ3.out.2.2 HJ3.out.2.1, HT2.out⟩

/-- What has been collected: box B holds a slice of memory that was made since Wr. -/
def CollK (Wr W : World) (B : Nat) (xs : List Nat) : Prop := ∃ v, Blk W B 48 #[v] ∧ W.ownsRow Wr.heap.size 3 1 v xs.length (nv xs)
theorem CollK.grew {w W W' : World} {B : Nat} {xs : List Nat} (h : CollK w W B xs) (hg : Grew W W') : CollK w W' B xs := by
  obtain ⟨v, hb, ho⟩ := h
  exact ⟨v, hb.grew hg, own_grew ho hg⟩
theorem CollK.kept {w W W' : World} {B k : Nat} {xs : List Nat} (h : CollK w W B xs) (hk : Kept k W W') : CollK w W' B xs := by
  obtain ⟨v, hb, ho⟩ := h
  exact ⟨v, hb.kept hk, own_kept ho hk⟩
/-- One more, appended and stored back. -/
theorem CollK.more {w W W1 : World} {F : Nat → Prop} {B n x : Nat} {xs : List Nat} {v v' : Value} (hb : Blk W B 48 #[v]) (ho : W.ownsRow w.heap.size 3 1 v xs.length (nv xs)) (hw : Chg F w W) (hB : F B)
    (hn : n = xs.length + 1) (ho' : W1.ownsRow w.heap.size 3 1 v' n (nv xs ++ [.int .i64 x])) (hg : W.grownBy W1 v.ownBlock) :
    Blk W1 B 48 #[v] ∧ Chg F w (W1.setCell ⟨B, 0, none⟩ v') ∧ CollK w (W1.setCell ⟨B, 0, none⟩ v') B (xs ++ [x]) ∧ Chg (fun j => some j = v.ownBlock ∨ j = B) W (W1.setCell ⟨B, 0, none⟩ v') := by
  have hne : some B ≠ v.ownBlock := fun e => own_blk_ne ho hb (by decide) e.symm
  have hb1 := hb.grown hg hne
  have hw1 : Chg F w W1 := hw.grown hg fun k hk hlt => by
    have := (ho.lt k hk).1; omega
  refine ⟨hb1, hw1.setCell (p := ⟨B, 0, none⟩) (fun h => hB) _, ⟨v', ?_, ?_⟩, ?_⟩
  · have := hb1.put 0 v'
    simpa using this
  · have hc : Chg (fun j => j = B) W1 (W1.setCell ⟨B, 0, none⟩ v') := (Chg.refl (fun j => j = B) W1).setCell (p := ⟨B, 0, none⟩) (fun _ => rfl) _
    have := own_chg ho' hc fun g hg e => own_blk_ne ho' hb1 (by decide) (by rw [hg, e])
    subst hn
    simpa [nv] using this
  · exact ((Chg.refl _ W).grown hg fun k hk _ => .inl hk.symm).setCell (p := ⟨B, 0, none⟩) (fun _ => .inr rfl) _
theorem Rec.collK {w W X : World} {B L : Nat} {xs : List Nat} {v : Value} {r : Loop} (h : Rec W L r) (ho : W.ownsRow w.heap.size 3 1 v xs.length (nv xs)) (hb : Blk W B 48 #[v]) (hc : Chg (fun j => some j = v.ownBlock ∨ j = B) W X) : Rec X L r :=
  h.chg hc fun e => by
    rcases e with e | e
    · exact own_noBook ho e.symm h.isBook
    · exact h.ne_blk hb e
theorem Dfr.collK {w W X : World} {B L : Nat} {xs : List Nat} {v : Value} (h : Dfr W L) (ho : W.ownsRow w.heap.size 3 1 v xs.length (nv xs)) (hb : Blk W B 48 #[v]) (hc : Chg (fun j => some j = v.ownBlock ∨ j = B) W X) : Dfr X L :=
  h.chg hc fun e => by
    rcases e with e | e
    · exact own_noBook ho e.symm h.isBook
    · exact h.ne_blk hb e
/-- Between two rounds. -/
def CollKJ (Wr W : World) (B D L : Nat) (r : Loop) (xs : List Nat) : Prop := Chg (fun j => j = B ∨ j = L) Wr W ∧ CollK Wr W B xs ∧ Dfr W D ∧ Rec W L (Loop.at_ r .ready none)
theorem CollKJ.grew {Wr W W' : World} {B D L : Nat} {r : Loop} {xs : List Nat} (h : CollKJ Wr W B D L r xs) (hg : Grew W W') : CollKJ Wr W' B D L r xs := ⟨h.1.grew hg, h.2.1.grew hg, h.2.2.1.grew hg, h.2.2.2.grew hg⟩
theorem CollKJ.itr {Wr W W' : World} {B D L it : Nat} {r : Loop} {xs : List Nat} (h : CollKJ Wr W B D L r xs) (hge : Wr.heap.size ≤ it) (hk : Kept it W W') (hD : D < Wr.heap.size) (hL : L < Wr.heap.size) : CollKJ Wr W' B D L r xs :=
  ⟨Chg.trans h.1 hk.chg fun i hi e => by omega, h.2.1.kept hk, h.2.2.1.kept hk (by omega), h.2.2.2.kept hk (by omega)⟩

set_option maxRecDepth 100000 in
set_option maxHeartbeats 1600000 in
theorem kappend_any (bs R s0 N : Nat) (f : Nat → Bool) (w : World) (hb : Blk w bs 60 #[.map (some R)]) (hm : IMap Tryz.prog 3 w R (mB f) s0) (hN : ∀ s, f s = true → s < N) (hl : N ≤ 1000000) :
    Calls Tryz.prog 91 #[.slice none 0 0, .func (.func 83) #[] #[.pointer (some ⟨bs, 0, none⟩)]] w fun e w' => ∃ l : List Nat, l.Perm (keysL f N) ∧ OwnOut w w' 3 1 l.length (nv l) (fun A c => .slice A l.length c) e := by
  have hbw := hb.lt
  have hmw := hm.lt
  have H := Lib.hid (And.intro hb (And.intro hm hN))
  clear hb hm hN
  (refine calls_of_marks Tryz.func91 rfl ?_; simp only [Tryz.ntmps91, List.size_toArray, List.length_cons, List.length_nil, Nat.reduceAdd, Nat.reduceSub, Array.replicate_succ, Array.replicate_zero, List.push_toArray, List.append_toArray, List.nil_append, List.cons_append])
  go_wp2_with fail
  obtain ⟨W0, hW0⟩ : ∃ W0, w.alloc (.cells #[.slice none 0 0] 48) = W0 := ⟨_, rfl⟩
  have HG0 := Lib.hid (show Grew w W0 from hW0 ▸ (Chg.refl _ _).alloc _)
  have HB := Lib.hid (show Blk W0 w.heap.size 48 #[.slice none 0 0] from hW0 ▸ Blk.new _ _ _)
  rw [hW0]
  clear hW0
  refine wp_range (gf := 83) (lb := #[.pointer (some ⟨bs, 0, none⟩)]) rfl (enters_of Tryz.func83 (by kernel_rfl) rfl) ?_
  intro r W2 D L hr hg1 hDl hLl hD hR
  have HR1 := Lib.hid hr
  have HG1 := Lib.hid (Grew.trans HG0.out hg1)
  have hDL := Ne.symm (hR.ne_dfr hD)
  have hz0 := HB.out.lt
  have hz3 := hg1.size
  have hL2 := hR.lt
  have hD2 := hD.lt
  have HI := Lib.hid (And.intro (H.out.1.grew HG1.out) (H.out.2.1.grew HG1.out))
  have HJ0 := Lib.hid (show CollKJ W2 W2 w.heap.size D L r [] from ⟨Chg.refl _ _, ⟨_, HB.out.grew hg1, World.ownsRow_nil _ _ _ _⟩, hD, hR⟩)
  clear hr hg1 hD hR
  refine (mkeys_iter bs L R s0 N f (fun xs W => CollKJ W2 W w.heap.size D L r xs) W2 H.out.2.2
    (fun k W hJ => ⟨HI.out.1.chg hJ.1 (by omega), HI.out.2.chg hJ.1 (by omega)⟩) (fun k W W' hJ hg => hJ.grew hg) (fun k W W' it hJ hge hk => hJ.itr hge hk hD2 hL2) (fun xs x1 W it o hJ hit hge hx hlx => ?yld) HJ0.out).mono ?post
  case yld =>
    have HX := Lib.hid hx
    have hws := hJ.1.size
    have HR := Lib.hid hJ.2.2.2
    have HD := Lib.hid hJ.2.2.1
    have HT := Lib.hid hit
    obtain ⟨v, hv1, hv2⟩ := hJ.2.1
    have HV := Lib.hid (And.intro hv1 (And.intro hv2 hJ.1))
    have hneL : it ≠ L := by omega
    clear hJ hx hv1 hv2 hit
    obtain ⟨hr1, hr2, hr3, hr4⟩ := HR1.out
    refine yield_wide HR.out (by rw [hr2]; rfl) ?_
    rw [hr1, hr2, hr3, hr4]
    clear hr1 hr2 hr3 hr4
    intro K hK
    have HK := Lib.hid hK
    clear hK
    gi_wp2
    refine HK.out _ _ HR.out fun W3 Q hk hR2 hQ => ?_
    have HQ := Lib.hid hQ
    have HV1 := Lib.hid (HV.out.1.kept hk)
    have HV2 := Lib.hid (own_kept HV.out.2.1 hk)
    have HV3 := Lib.hid (Chg.trans HV.out.2.2 hk.chg fun i _ e => .inr e)
    have HW5 := Lib.hid hR2
    have HW6 := Lib.hid (HD.out.kept hk hDL)
    have HT3 := Lib.hid (HT.out.chg hk.chg hneL)
    have hRm : W3.heap[R]? = W.heap[R]? := hk.chg.block R (by omega) (by omega)
    have HRm := Lib.hid hRm
    have hsz : W.heap.size ≤ W3.heap.size := hk.chg.size
    clear hk hR2 hQ hRm
    obtain ⟨c2, f2, s2⟩ := HV1.out.facts
    have hle2 : xs.length ≤ 1000000 := by omega
    obtain ⟨i0, hi, hz0', hz1, hz2⟩ := info_parts i64Info_
    have HV2a := Lib.hid (own_grew HV2.out ((Chg.refl NoF W3).alloc (.cells #[.int .i64 x1] 3)))
    have HT4 := Lib.hid (HT3.out.grew ((Chg.refl NoF W3).alloc (.cells #[.int .i64 x1] 3)))
    gi_wp2_with (gi_at_builtin; refine wpListIn_append_own_at _ (by rfl) _ _ 48 (by rfl) W2.heap.size 3 i0 (.int .i64 0) 1 8 Tryz.underlying48 hi hz0' hz1 hz2 rfl (by decide) v _ _ (by rfl) HV2a.out ⟨W3.heap.size, 0, none⟩ 1 1 [.int .i64 x1] (by rfl) (by rfl) (news_one _ _ _) (by simp [Value.oneCell']) (by simp only [maxLen]; omega) (by omega) (by simp; omega) ?_; intro v' w5 ho5 hg5 _ _; obtain ⟨g', cap', rfl⟩ := ownsRow_succ ho5; have HM := Lib.hid (CollK.more (HV1.out.alloc _) HV2a.out (HV3.out.alloc _) (.inl rfl) rfl ho5 hg5); clear ho5 hg5; obtain ⟨c5, f5, s5⟩ := HM.out.1.facts)
    refine HQ.out _ _ _ ⟨(HW5.out.alloc _).collK HV2a.out (HV1.out.alloc _) HM.out.2.2.2, fun w' hk' hR' => ⟨rfl, ⟨Chg.trans HM.out.2.1 hk'.chg fun i _ e => .inr e, HM.out.2.2.1.kept hk', ((HW6.out.alloc _).collK HV2a.out (HV1.out.alloc _) HM.out.2.2.2).kept hk' hDL, hR'⟩,
      (HT4.out.chg HM.out.2.2.2 (fun e => by rcases e with e | e; exact own_noBook HV2a.out e.symm HT4.out.book; exact (HV1.out.alloc _).noBook (e ▸ HT4.out.book))).chg hk'.chg hneL, ?_⟩⟩
    have hRw : R < W.heap.size := by omega
    refine (hk'.chg.block R ?_ (by omega)).trans ((HM.out.2.2.2.block R ?_ ?_).trans ((Below.heap_alloc _ _ _ (by omega)).trans HRm.out))
    · have := HM.out.2.2.2.size; simp only [World.size_alloc] at this; omega
    · simp only [World.size_alloc]; omega
    · rintro (e | e)
      · have := (HV2a.out.lt R e.symm).1; omega
      · omega
  case post =>
    rintro e w3 ⟨hv, l, hpl, hJ⟩
    refine ⟨hv, .inl ⟨hJ.2.2.2, fun w4 hk4 => ?_⟩⟩
    obtain ⟨v, hv1, hv2⟩ := hJ.2.1
    obtain ⟨A', c', rfl, _⟩ := own_shape hv2
    have HV := Lib.hid (And.intro (hv1.kept hk4) (own_kept hv2 hk4))
    have HD := Lib.hid (hJ.2.2.1.kept hk4 hDL)
    have HC := Lib.hid (Chg.trans hJ.1 hk4.chg fun i _ e => .inr e)
    have HP := Lib.hid hpl
    clear hJ hk4 hv1 hv2 hpl
    obtain ⟨c2, f2, s2⟩ := HV.out.1.facts
    go_wp2
    refine postM_ret1 (v := .slice A' l.length c') HD.out rfl fun w5 hk5 => ⟨by simp [results, Tryz.results91, go_sem], l, HP.out, A', c', rfl, own_base (own_kept HV.out.2 hk5) (by have := HG1.out.size; omega), ?_⟩
    have hF : Grew w w4 := by
      refine Chg.mono (Chg.trans (F := fun j => w.heap.size ≤ j) HG1.out.chg HC.out fun i hi e => ?_) fun i hi e => absurd e (by omega)
      rcases e with e | e <;> omega
    exact Chg.kept hF hk5 (by omega)

end Go.Proofs.YtjlkpeplldckoaaGreatDoor

/- The keys of a set of numbers, sorted. -/
namespace Go.Proofs.YtjlkpeplldckoaaGreatDoor
open Go.RowKit Go.Maps Go.Shelf Go.Sort

theorem putCells_takeI {cur : Array Value} {F : Array Int} (h : F.size ≤ cur.size) : (putCells (Value.int .i64) 0 F cur).toList.take F.size = F.toList.map (Value.int .i64) := by
  apply List.ext_getElem?
  intro j
  by_cases hj : j < F.size
  · rw [List.getElem?_take_of_lt hj, Array.getElem?_toList]
    simp [putCells, hj, show j < cur.size by omega]
  · rw [List.getElem?_take_eq_none (by omega), List.getElem?_eq_none (by simp; omega)]
theorem own_sortedI {w : World} {base g cap n : Nat} {e : TypeId} {os : Array Obj} {l : List Nat} {ys : List Int} (h : w.ownsRow base e 1 (.slice (some ⟨g, 0, none⟩) l.length cap) l.length (nv l)) (hl : ys.length = l.length) :
    (grow (putRow (Value.int .i64) (Sort.ahead w n) g 0 ys.toArray) os).ownsRow base e 1 (.slice (some ⟨g, 0, none⟩) l.length cap) l.length (ys.map (Value.int .i64)) ∧ w.grownBy (grow (putRow (Value.int .i64) (Sort.ahead w n) g 0 ys.toArray) os) (some g) := by
  obtain ⟨cur, hb, hg, hnc, hcm, hcs, htake, hxl⟩ := own_row h
  have hgl : g < w.heap.size := (Array.getElem?_eq_some_iff.1 hg).1
  have hh : (grow (putRow (Value.int .i64) (Sort.ahead w n) g 0 ys.toArray) os).heap[g]? = some (.cells (putCells (Value.int .i64) 0 ys.toArray cur) e (0, 0)) := by
    rw [heap_grow_old _ _ (by simpa [putRow, mapBlock, Sort.ahead] using hgl)]
    simp [putRow, mapBlock, Sort.ahead, Array.getElem?_modify, hg, onCells]
  refine ⟨⟨by simp [hl], .inr ⟨g, cap, _, rfl, hb, hh, hnc, hcm, by simp [putCells, hcs], ?_⟩⟩, rfl, rfl, rfl, by simp [putRow, mapBlock, Sort.ahead, grow], fun k hk hne => ?_⟩
  · have := putCells_takeI (cur := cur) (F := ys.toArray) (by simp [hl]; omega)
    rw [Nat.mul_one, ← hl]
    simpa using this
  · rw [heap_grow_old _ _ (by simpa [putRow, mapBlock, Sort.ahead] using hk)]
    have : g ≠ k := fun e => hne (by rw [e])
    simp [putRow, mapBlock, Sort.ahead, Array.getElem?_modify, this]
/-- The same numbers, rising. -/
theorem sorted_is {l : List Nat} {f : Nat → Bool} {N : Nat} (h : l.Perm (keysL f N)) : (l.map fun n : Nat => (n : Int)).mergeSort (fun x y => decide (x ≤ y)) = (keysL f N).map fun n : Nat => (n : Int) := by
  have h1 := List.pairwise_mergeSort (le := fun x y : Int => decide (x ≤ y)) (fun a b c hab hbc => by simp at *; omega) (fun a b => by simp; omega) (l.map fun n : Nat => (n : Int))
  have h2 : ((keysL f N).map fun n : Nat => (n : Int)).Pairwise fun a b => decide (a ≤ b) = true := by
    rw [List.pairwise_map]
    have : (keysL f N).Pairwise (· < ·) := List.Pairwise.filter _ List.pairwise_lt_range
    exact this.imp fun hab => by simp; omega
  refine List.Perm.eq_of_pairwise (le := fun a b : Int => decide (a ≤ b) = true) (fun a b _ _ hab hba => by simp at *; omega) h1 h2 ?_
  exact (List.mergeSort_perm _ _).trans (h.map _)

set_option maxRecDepth 100000 in
set_option maxHeartbeats 800000 in
theorem ksorted_any (bs R s0 N : Nat) (f : Nat → Bool) (w : World) (hb : Blk w bs 60 #[.map (some R)]) (hm : IMap Tryz.prog 3 w R (mB f) s0) (hN : ∀ s, f s = true → s < N) (hl : N ≤ 1000000) (hne : 0 < (keysL f N).length) :
    Calls Tryz.prog 61 #[.func (.func 83) #[] #[.pointer (some ⟨bs, 0, none⟩)]] w fun e w' => OwnOut w w' 3 1 (keysL f N).length (nv (keysL f N)) (fun A c => .slice A (keysL f N).length c) e := by
  have H := Lib.hid (kappend_any bs R s0 N f w hb hm hN hl)
  have hcol : Calls Tryz.prog 81 #[.func (.func 83) #[] #[.pointer (some ⟨bs, 0, none⟩)]] w fun e w' => ∃ l : List Nat, l.Perm (keysL f N) ∧ OwnOut w w' 3 1 l.length (nv l) (fun A c => .slice A l.length c) e := by
    clear hb hm hN
    go_enter Tryz.func81, Tryz.ntmps81
    go_wp2_with fail
    refine H.out.mono ?_
    rintro e w1 ⟨l, hp, A, c, rfl, ho, hg⟩
    have HO := Lib.hid (And.intro hp (And.intro ho hg))
    clear hp ho hg
    go_wp2_with fail
    go_ret
    exact ⟨l, HO.out.1, A, c, rfl, HO.out.2.1, HO.out.2.2⟩
  have HC := Lib.hid hcol
  clear hb hm hcol
  go_enter Tryz.func61, Tryz.ntmps61
  go_wp2_with fail
  refine HC.out.mono ?_
  rintro e w1 ⟨l, hp, A, c, rfl, ho, hg⟩
  have hll : l.length = (keysL f N).length := hp.length_eq
  have hlN : l.length ≤ N := by rw [hll]; unfold keysL; exact Nat.le_trans (List.length_filter_le _ _) (by simp)
  cases A with
  | none =>
    obtain ⟨h0, rfl⟩ := own_none ho
    omega
  | some a =>
    obtain ⟨g, rfl, hgl⟩ := own_some ho
    have hzl : (l.map fun n : Nat => (n : Int)).length = l.length := by simp
    have hso := Any.slices_Sort_int sortInt g 0 c (l.map fun n : Nat => (n : Int)) w1 (fun j hj => by
      have hj' : j < l.length := by simpa using hj
      obtain ⟨cur, hb, hgc, hnc, hcm, hcs, htake, hxl⟩ := own_row ho
      refine ⟨?_, by simp [World.frozen?, hgc]⟩
      have := ho.cells (g := g) rfl j (.int .i64 (l[j] : Int)) (by simp [nv, hj'])
      rw [Addr.add_lit] at this
      rw [this]
      simp [hj']) hgl (by rw [hzl]; omega)
    rw [hzl, sorted_is hp] at hso
    have hso2 : Calls Tryz.prog 82 #[.slice (some ⟨g, 0, none⟩) l.length c] w1 fun e w' => e = .returned (.tuple #[]) ∧ ∃ n os, w' = grow (putRow (Value.int .i64) (Sort.ahead w1 n) g 0 ((keysL f N).map fun n : Nat => (n : Int)).toArray) os := hso
    clear hso
    have HO := Lib.hid (And.intro hp (And.intro ho (And.intro hg hll)))
    clear hp ho hg
    rw [hll] at hso2
    have HS := Lib.hid hso2
    clear hso2
    go_wp2_with fail
    refine HS.out.mono ?_
    rintro e w2 ⟨rfl, n, os, rfl⟩
    have hr := own_sortedI (n := n) (os := os) HO.out.2.1 (ys := (keysL f N).map fun n : Nat => (n : Int)) (by simp [hll])
    obtain ⟨W2, hW2⟩ : ∃ W2, grow (putRow (Value.int .i64) (Sort.ahead w1 n) g 0 ((keysL f N).map fun n : Nat => (n : Int)).toArray) os = W2 := ⟨_, rfl⟩
    rw [hW2] at hr ⊢
    have HR := Lib.hid hr
    clear hr hW2
    go_wp2_with fail
    go_ret
    refine OwnOut.mk (some ⟨g, 0, none⟩) c rfl ?_ (HO.out.2.2.1.grown HR.out.2 fun k hk hlt => by injection hk with hk; have := (HO.out.2.1.lt g rfl).1; omega)
    rw [← hll]
    have := HR.out.1
    rw [List.map_map] at this
    exact this

end Go.Proofs.YtjlkpeplldckoaaGreatDoor

/- The disk: Flush. -/
namespace Go.Proofs.YtjlkpeplldckoaaGreatDoor
open Go.RowKit Go.Maps
open Go.ChangeMaps (setBlock)

theorem imap_clear {P : Program} {k t e : TypeId} {w : World} {b s : Nat} {m : Int → Option Value} (h : IMap P k w b m s) (ht : P.underlying t = some (.map k e)) (ty : TypeId) :
    ∃ w', (Builtin.clear_ #[t] ty #[.map (some b)]).run P w = .ok (.tuple #[]) w' ∧ IMap P k w' b (fun _ => none) 0 ∧ Chg (fun j => j = b) w w' := by
  obtain ⟨D, ⟨es, clock, hb, hf, -⟩, -⟩ := h
  have hlt : b < w.heap.size := (Array.getElem?_eq_some_iff.1 hb).1
  refine ⟨{ w with heap := w.heap.setIfInBounds b (.map #[] clock) }, ?_, ⟨.map [], ⟨#[], clock, ?_, ⟨by simp, MapKept.stamped_empty clock, by simp⟩, Nat.le_refl _, rfl⟩, rfl, ⟨fun _ _ => rfl, fun _ _ h => by cases h⟩⟩, ⟨rfl, rfl, rfl, by simp, fun j hj hn => ?_⟩⟩
  · simp [Builtin.clear_, run_underlying ht, MapKept.run_getObj_map hb, MapKept.run_setObj_map _ hb, Result.andThen]
  · simp [hlt]
  · simp [Array.getElem?_setIfInBounds, Ne.symm hn]

/-- All is on the disk. -/
def Dk.flushed (D : Dk) : Dk := { D with data := fun i => D.rd (i : Int), cache := fun _ => none, done := wrap64 (D.done + 1) }
theorem Dk.flushed_rd (D : Dk) (i : Nat) : D.flushed.rd (i : Int) = D.rd (i : Int) := by
  unfold Dk.flushed
  rw [Dk.rd_none rfl]
  simp

theorem own_noMap {w : World} {b n s b2 s2 : Nat} {e kt : TypeId} {v : Value} {xs : List Value} {P : Program} {m : Int → Option Value} (h : w.ownsRow b e n v s xs) (k : IMap P kt w b2 m s2) : v.ownBlock ≠ some b2 := by
  intro he
  rcases h.2 with ⟨rfl, _⟩ | ⟨g', cap, cur, rfl, _, hh, _⟩
  · simp [Value.ownBlock] at he
  · have : g' = b2 := by simpa [Value.ownBlock] using he
    subst this
    obtain ⟨D, ⟨es, clock, hb, -⟩, -⟩ := k
    rw [hh] at hb
    cases hb

/-- Between two entries. -/
structure FluJ (w W : World) (d n c g M it s q : Nat) (cs : Array Value) (vs : List Value) (cm : Int → Option Value) (left : Int → Bool) : Prop where
  blk : Blk W d 46 cs
  row : ∃ vs', W.ownsRow 0 38 1 (.slice (some ⟨g, 0, none⟩) n c) n vs' ∧ ∀ i, i < n → vs'[i]? = if left (i : Int) then vs[i]? else (match cm i with | some v => some v | none => vs[i]?)
  it_ : IIt Tryz.prog 3 W M it cm s left q
  chg : Chg (fun j => j = g) w W

set_option maxRecDepth 100000 in
set_option maxHeartbeats 1600000 in
theorem dflush_ok (d : Nat) (F : Nat → Prop) (D : Dk) (w : World) (h : DS w d F D) (hd : D.down = false) (ha : D.armed = false) :
    Calls Tryz.prog 41 #[.pointer (some ⟨d, 0, none⟩)] w fun e w' => e = .returned (.int .i64 0) ∧ DTo w w' d F D.flushed := by
  have HC := Lib.hid (dcommand_ok d F D w h ha)
  have hb0 : ∃ cs, Blk w d 46 cs ∧ cs[5]? = some (.bool false) := by
    obtain ⟨⟨A, c, M, s, vs, cm, hi⟩, -⟩ := h
    exact ⟨_, hi.blk, by rw [hd]; rfl⟩
  obtain ⟨cs0, hb0, h05⟩ := hb0
  have c05 := hb0.cell 5
  rw [h05] at c05
  have s05 := hb0.lt
  clear h hb0 h05
  go_enter Tryz.func41, Tryz.ntmps41
  go_wp2_with fail
  refine HC.out.mono ?_
  clear c05 s05
  rintro e w1 ⟨rfl, F1, ⟨⟨A, c, M, s, vs, cm, hi⟩, hl0⟩, hc1, hn1⟩
  obtain ⟨g, rfl, hg⟩ := own_block hi.row (by have := hi.sml.1; exact Nat.lt_of_lt_of_le Nat.zero_lt_one this)
  obtain ⟨w2, hrg, hI2, hg2, hz2⟩ := hi.map.range_ (t := 43) kInt Tryz.underlying43
  obtain ⟨it, hit⟩ : ∃ it, w1.heap.size = it := ⟨_, rfl⟩
  rw [hit] at hrg hI2
  have hsm := hi.sml
  dsimp only at hsm
  obtain ⟨c0, f0, s0⟩ := hi.blk.facts
  have hB2 := hi.blk.grew hg2
  obtain ⟨cs, hcs⟩ : ∃ cs : Array Value, (#[.int .i64 D.sz, .slice (some ⟨g, 0, none⟩) D.n c, .map (some M), .bool D.armed, .int .i64 D.left, .bool D.down, .int .i64 (wrap64 (D.done + 1))] : Array Value) = cs := ⟨_, rfl⟩
  have HJ0 := Lib.hid (show FluJ w1 w2 d D.n c g M it s s cs vs cm (fun i => (cm i).isSome) from ⟨hcs ▸ hB2, ⟨vs, own_grew hi.row hg2, fun i _ => by
    cases hm : cm (i : Int) with
    | none => simp [hm]
    | some v => simp [hm]⟩, hI2, hg2.chg⟩)
  have H1 := Lib.hid (And.intro hi (And.intro hl0 (And.intro hc1 (And.intro hn1 (And.intro hg2 (And.intro hit hcs))))))
  clear hi hl0 hc1 hn1 hg2 hI2 hB2 hz2
  go_wp2_with fail
  clear hrg c0 f0
  go_loopg [] s (fun q wr => ∃ left : Int → Bool, FluJ w1 wr d D.n c g M it s q cs vs cm left)
  case atStart => exact ⟨_, HJ0.out⟩
  case round =>
    obtain ⟨left, hJ⟩ := hrel
    obtain ⟨ob, hob⟩ := hJ.it_.has
    rcases hJ.it_.next kInt Tryz.underlying3 0 with ⟨h0, hl, hrun⟩ | ⟨i, v, w3, q', hli, hmi, hrun, hI3, hq, hk3, hz3, hen⟩
    · have hbk := hJ.blk
      rw [← H1.out.2.2.2.2.2.2] at hbk
      obtain ⟨c1, f1, s1⟩ := hbk.facts
      obtain ⟨w4, hcl, hm4, hc4⟩ := imap_clear hJ.it_.imap (t := 43) Tryz.underlying43 0
      have HD := Lib.hid (And.intro hJ (And.intro hl (And.intro hm4 hc4)))
      clear hJ hl hob hbk hm4 hc4
      go_wp2
      go_ret
      refine ⟨rfl, ?_⟩
      obtain ⟨hi, hl0, hc1, hn1, hg2, hit, hcs⟩ := H1.out
      obtain ⟨hJ, hl, hm4, hc4⟩ := HD.out
      obtain ⟨vs', hr', hv'⟩ := hJ.row
      have hMd := imap_ne hi.map hi.blk
      have hgM : g ≠ M := fun e => own_noMap hi.row hi.map (by simp [Value.ownBlock, e])
      have hgd : g ≠ d := fun e => own_blk_ne hi.row hi.blk (by decide) (by simp [Value.ownBlock, e])
      have hcw : Chg (fun j => j = g ∨ j = M) w1 w4 := Chg.trans (hJ.chg.mono fun _ _ e => .inl e) hc4 fun j _ e => .inr e
      have hnb : ∀ j, (j = g ∨ j = M) → NotB w1 j := by
        rintro j (rfl | rfl)
        · exact own_notB hi.row (by decide) rfl
        · exact map_notB hi.map
      have hF : ∀ j, (j = g ∨ j = M) → F1 j := by
        rintro j (rfl | rfl)
        · exact hi.inF.2.2 _ rfl
        · exact hi.inF.2.1
      refine ⟨F1, ⟨⟨some ⟨g, 0, none⟩, c, M, 0, vs', fun _ => none, ?_, ?_, hm4, fun i hin => ?_, (fun _ _ => rfl), (fun i bs hb => by cases hb), hi.inF, ⟨hsm.1, hsm.2.1, hsm.2.2.1, hsm.2.2.2.1, Nat.zero_le _⟩⟩, fun j hj => Nat.lt_of_lt_of_le (hl0 j hj) hcw.size⟩, Chg.trans hc1 (hcw.mono fun j _ e => hF j e) (fun j hj e => (hn1 j e).resolve_right (by omega)), fun j hj => hn1 j hj⟩
      · have := hJ.blk.chg hc4 (by simpa using Ne.symm hMd)
        rw [← hcs] at this
        exact this
      · exact own_chg hr' hc4 (fun j hj e => by simp [Value.ownBlock] at hj; omega)
      · have hvi := hv' i hin
        rw [hl, if_neg (by simp)] at hvi
        cases hm : cm (i : Int) with
        | some v =>
          rw [hm] at hvi
          cases hca : D.cache (i : Int) with
          | none => have := hi.no i hca; rw [hm] at this; cases this
          | some bs =>
            obtain ⟨v', e1, e2, e3, -⟩ := hi.has i bs hca
            rw [hm] at e1
            cases e1
            have e4 : D.flushed.data i = bs := by unfold Dk.flushed; exact Dk.rd_some hca
            rw [e4]
            exact ⟨v, hvi, e2.past hcw hnb, e3⟩
        | none =>
          rw [hm] at hvi
          obtain ⟨v, e1, e2, e3⟩ := hi.dat i hin
          have hca : D.cache (i : Int) = none := by
            cases hca : D.cache (i : Int) with
            | none => rfl
            | some bs => obtain ⟨v', e1, -⟩ := hi.has i bs hca; rw [hm] at e1; cases e1
          have e4 : D.flushed.data i = D.data i := by unfold Dk.flushed; dsimp only; rw [Dk.rd_none hca]; simp
          rw [e4]
          refine ⟨v, ?_, e2.past hcw hnb, e3⟩
          rw [hvi]; exact e1
    · have hin : ∃ k : Nat, i = (k : Int) ∧ k < D.n ∧ ∃ A' n' c', v = .slice A' n' c' := by
        cases hca : D.cache i with
        | none => have := H1.out.1.no i hca; rw [hmi] at this; cases this
        | some bs =>
          obtain ⟨v', e1, e2, e3, e4, e5⟩ := H1.out.1.has i bs hca
          rw [hmi] at e1
          cases e1
          obtain ⟨A', c', e6, -⟩ := own_shape e2.1
          exact ⟨i.toNat, by omega, by have e7 : i < (D.n : Int) := e5; omega, A', _, c', e6⟩
      obtain ⟨k, rfl, hkn, A', n', c', rfl⟩ := hin
      obtain ⟨vs', hr', hv'⟩ := hJ.row
      have hitl : w1.heap.size ≤ it := by have := H1.out.2.2.2.2.2.1; omega
      have hitg : it ≠ g := by omega
      have hr3 := own_chg hr' hk3.chg (fun j hj e => by simp [Value.ownBlock] at hj; omega)
      have hB3 := hJ.blk.kept hk3
      have hst := hr3.stored k (.slice A' n' c')
      have hkl : k < vs'.length := by have := hr'.1; rw [Nat.mul_one] at this; omega
      obtain ⟨u, hu⟩ : ∃ u, vs'[k]? = some u := ⟨_, List.getElem?_eq_getElem hkl⟩
      have ck : w3.cell? ⟨g, k, none⟩ = some u := by rw [hr3.cellAt k (by rw [Nat.mul_one]; exact hkn)]; exact hu
      have fk := hr3.frozenAt k
      have sk : g < w3.heap.size := (hr3.lt g rfl).2
      have hB3' := hB3
      rw [← H1.out.2.2.2.2.2.2] at hB3'
      obtain ⟨c1, f1, s1⟩ := hB3'.facts
      have u1 : (k : Int) < (D.n : Int) := by omega
      have HR := Lib.hid (And.intro hJ (And.intro hr3 (And.intro hv' (And.intro hI3 (And.intro hk3 (And.intro hst (And.intro hB3 (And.intro hmi (And.intro hli (And.intro hitl (And.intro hob hkl)))))))))))
      clear hJ hr3 hr' hv' hI3 hk3 hst hB3 hB3' hmi hli hitl hob hkl hu hz3
      go_wp2
      obtain ⟨hJ, hr3, hv', hI3, hk3, hst, hB3, hmi, hli, hitl, hob, hkl⟩ := HR.out
      have hi := H1.out.1
      have hgd : g ≠ d := fun e => own_blk_ne hi.row hi.blk (by decide) (by simp [Value.ownBlock, e])
      have hgM : g ≠ M := fun e => own_noMap hi.row hi.map (by simp [Value.ownBlock, e])
      have hg1 := (hi.row.lt g rfl).2
      obtain ⟨ob3, hob3⟩ := hI3.has
      go_roundg q'
      case measure => exact hq
      case rel =>
        have hc4 : Chg (fun j => j = g) w3 (w3.setCell ⟨g, k, none⟩ (.slice A' n' c')) := (Chg.refl (fun j => j = g) w3).setCell (p := ⟨g, k, none⟩) (fun _ => rfl) _
        refine ⟨_, ⟨hB3.chg hc4 (Ne.symm hgd), ⟨_, hst.1, fun i hin => ?_⟩, hI3.same hob3 (hc4.block M hI3.imap.lt (Ne.symm hgM)) (hob3.chg hc4 (by omega)), Chg.trans (hJ.chg.kept hk3 hitl) hc4 fun j _ e => e⟩⟩
        by_cases e : i = k
        · subst e
          rw [List.getElem?_set_self hkl]
          simp [hmi]
        · have e2 : ¬ (i : Int) = (k : Int) := by omega
          rw [List.getElem?_set_ne (by omega), hv' i hin]
          simp [e2]

end Go.Proofs.YtjlkpeplldckoaaGreatDoor

/- A drawn region of a round, walked as one outside of it: one way, with what is held (program-free). -/
namespace Go.Proofs.YtjlkpeplldckoaaGreatDoor
open Go.RowKit

section
variable {P : Program} {n L : Nat} {ops : Array Oper} {Q : Exit → Act → World → Prop} {md : Region.Mode} {S : World → Prop}

theorem rowsIn_wide {n : Nat} {row : String} {args : Array Value} {w : World} {R : Value → World → Prop} (h : Rows P row args w R) : RowsIn Fence.wide n P row args w R :=
  fun c cs _ => let ⟨v, w', r, s⟩ := h c cs; ⟨v, w', r, stepsIn_wide.2 s⟩

theorem wpIn_of_wp {o : Oper} {a : Act} {w : World} {K : Act → World → Prop} (h : o.wp P a w K Q) : o.wpIn Fence.wide n P a w K Q := by
  unfold Oper.wp at h
  unfold Oper.wpIn
  refine ⟨fun f hf => trivial, ?_⟩
  rw [show (Fence.wide).round = none from rfl, Oper.semAt_none]
  generalize (execOp a.eval o).run P w = r at h ⊢
  cases r with
  | ok x w' =>
    cases x <;> simp only [Oper.upon, Oper.uponIn] at h ⊢
    all_goals first
      | exact h
      | exact ⟨fun hd => (by cases hd), callsIn_wide.2 h⟩
      | exact ⟨fun hd => (by cases hd), rowsIn_wide h⟩
      | exact h.elim
  | halt x w' => cases x <;> exact h

theorem wpOpIn_of_wpOp (hO : ∀ a w, Q .outgrown a w → False) {i : Nat} {a : Act} {w : World} {K : Act → World → Prop} (h : wpOp P ops Q i K a w) : wpOpIn Fence.wide n P ops Q i K a w := by
  unfold wpOp at h
  unfold wpOpIn
  cases ho : ops[i]? with
  | none => simpa [ho] using h
  | some o =>
    simp only [ho] at h ⊢
    split
    · rename_i hw
      simp only [hw, if_true] at h
      rcases h with h | ⟨_, a', w', h⟩
      · exact wpIn_of_wp h
      · exact (hO _ _ h).elim
    · rename_i hw
      simp only [hw] at h
      exact ⟨fun f hf => trivial, h⟩

theorem wpAnyIn_of_any (hO : ∀ a w, Q .outgrown a w → False) : ∀ (fuel : Nat) (listed : Array Bool) (a : Act) (w : World), wpAny P md ops Q fuel listed a w → wpAnyIn Fence.wide n P md ops Q fuel listed a w
  | 0, _, _, _, h => h
  | fuel + 1, _, _, _, h => ⟨h.1, fun i hi => wpOpIn_mono (fun a w => wpAnyIn_of_any hO fuel _ a w) (wpOpIn_of_wpOp hO (h.2 i hi))⟩

/-- A drawn region of a round that holds S. -/
theorem wpIn_region_held_round {id : Nat} {a : Act} {w : World} (hO : ∀ a w, Q .outgrown a w → False) (hm : P.follows .mixedOrders = true) (hnd : noDefer ops = true) (hS : S w.drew)
    (h : S w.drew → wpAnyH P .any ops Q S ops.size (Array.replicate ops.size false) a w.drew) : (Code.region id ops true).wpIn (Fence.wide.inRound L) n P Q a w :=
  wpIn_region_any hm (wpAnyIn_inRound hnd _ _ _ _ (wpAnyIn_of_any hO _ _ _ _ (wpAny_of_held _ _ _ _ (h hS))))
/-- .. and one of a fenced call. -/
theorem wpIn_region_held_wide {id : Nat} {a : Act} {w : World} (hO : ∀ a w, Q .outgrown a w → False) (hm : P.follows .mixedOrders = true) (hS : S w.drew)
    (h : S w.drew → wpAnyH P .any ops Q S ops.size (Array.replicate ops.size false) a w.drew) : (Code.region id ops true).wpIn Fence.wide n P Q a w :=
  wpIn_region_any hm (wpAnyIn_of_any hO _ _ _ _ (wpAny_of_held _ _ _ _ (h hS)))
end

end Go.Proofs.YtjlkpeplldckoaaGreatDoor

/- The slots: Save. -/
namespace Go.Proofs.YtjlkpeplldckoaaGreatDoor
open Go.RowKit Go.Maps

theorem slot_any (ep q : Nat) (A : Option Addr) (n c : Nat) (w : World) (h : ep ≤ 9223372036854775807) (hq : ep % 2 = q) :
    Calls Tryz.prog 47 #[.agg #[.int .i64 ep, .slice A n c]] w fun e w' => e = .returned (.int .i64 q) ∧ Grew w w' := by
  have q1 : (ep : Int).tmod 2 = (q : Int) := by rw [Int.tmod_eq_emod_of_nonneg (by omega)]; omega
  have q2 : (ep : Int) % 2 = (q : Int) := by omega
  have q3 : q ≤ 1 := by omega
  clear hq
  go_enter Tryz.func47, Tryz.ntmps47
  go_wp2
  go_ret
  exact ⟨rfl, (Chg.refl _ _).alloc _⟩

theorem grp_mono : ∀ (m a b : Nat), a ≤ m → a ≤ b → (grp a).length ≤ (grp b).length := by
  intro m
  induction m with
  | zero =>
    intro a b ha _
    obtain rfl : a = 0 := by omega
    rw [grp_small (by omega)]
    by_cases hb : b < 128
    · rw [grp_small hb]; simp
    · rw [grp_more (by omega)]; simp
  | succ m ih =>
    intro a b ha hab
    by_cases h : a < 128
    · rw [grp_small h]
      by_cases hb : b < 128
      · rw [grp_small hb]; simp
      · rw [grp_more (by omega)]; simp
    · rw [grp_more (u := a) (by omega), grp_more (u := b) (by omega)]
      have := ih (a / 128) (b / 128) (by omega) (by omega)
      simp only [List.length_cons]
      omega
theorem grps_mono (l : List Nat) (h : ∀ n ∈ l, n < 4096) : (grps l).length ≤ (grps (List.replicate l.length 4095)).length := by
  induction l with
  | nil => simp [grps]
  | cons n l ih =>
    have h1 := ih fun x hx => h x (List.mem_cons_of_mem _ hx)
    have h2 := grp_mono _ (2 * n) (2 * 4095) (Nat.le_refl _) (by have := h n (by simp); omega)
    unfold grps at h1 ⊢
    rw [List.length_cons, List.replicate_succ, List.flatMap_cons, List.flatMap_cons, List.length_append, List.length_append]
    omega
/-- A root of so many numbers fits where the greatest one does. -/
theorem body_fits {ep sz : Nat} {l : List Nat} (h : fitsN l.length sz = true) (h2 : ep ≤ 1099511627776) (hg : ∀ n ∈ l, n < 4096) : (bodyL ep l).length + 14 ≤ sz := by
  have h1 := of_decide_eq_true h
  have h3 := grp_mono _ (2 * ep) (2 * 1099511627776) (Nat.le_refl _) (by omega)
  have h4 := grps_mono l hg
  simp only [bodyL, List.length_append, List.length_replicate] at h1 ⊢
  omega

theorem rootL_len {ep sz : Nat} {l : List Nat} (h : (bodyL ep l).length + 14 ≤ sz) : (rootL ep l sz).length = sz := by
  unfold rootL
  rw [List.length_append, sealL_len (by omega)]
  simp [tail8]
  omega

set_option maxRecDepth 100000 in
set_option maxHeartbeats 1600000 in
theorem save_ok (d : Nat) (F : Nat → Prop) (D : Dk) (ep : Nat) (l : List Nat) (A : Option Addr) (c : Nat) (w : World) (h : DS w d F D) (hd : D.down = false) (ha : D.armed = false) (hn : 2 ≤ D.n) (hs : Sl w 1 A l.length (nv l)) (h1 : 1 ≤ ep) (h2 : ep ≤ 1099511627776) (hl : l.length ≤ 64) (hg : ∀ n ∈ l, n < 4096) (hfit : (bodyL ep l).length + 14 ≤ D.sz) :
    Calls Tryz.prog 42 #[.pointer (some ⟨d, 0, none⟩), .agg #[.int .i64 ep, .slice A l.length c]] w fun e w' => e = .returned (.int .i64 0) ∧ DTo w w' d F (D.wr ((ep % 2 : Nat) : Int) (rootL ep l D.sz)).flushed := by
  have hsm := h.sml
  obtain ⟨n, hnn⟩ : ∃ n, l.length = n := ⟨_, rfl⟩
  obtain ⟨W1, hW1⟩ : ∃ W, w.alloc (.cells #[.int .i64 ep, .slice A n c] 56) = W := ⟨_, rfl⟩
  have hG1 : Grew w W1 := hW1 ▸ (Chg.refl _ _).alloc _
  have hB1 : Blk W1 w.heap.size 56 #[.int .i64 ep, .slice A n c] := hW1 ▸ Blk.new _ _ _
  have H := Lib.hid (And.intro (h.grew hG1) (And.intro hd (And.intro ha (And.intro (hs.grew hG1) (And.intro hg (And.intro hfit (And.intro hnn (And.intro hG1 hB1))))))))
  have HW1 := Lib.hid hW1
  obtain ⟨b0, hb0⟩ : ∃ b, w.heap.size = b := ⟨_, rfl⟩
  rw [hb0] at hB1
  have Hb0 := Lib.hid hb0
  obtain ⟨q, hqq⟩ : ∃ q, ep % 2 = q := ⟨_, rfl⟩
  have hq : q < 2 := by omega
  rw [hnn] at hl ⊢
  rw [hqq]
  clear h hd ha hs hg hfit hnn hG1 hW1 hb0
  go_enter Tryz.func42, Tryz.ntmps42
  go_wp2_with (first | (rw [HW1.out]) | (rw [Hb0.out]))
  have hS0 : ∀ W', Grew W1 W' → W'.cell? ⟨b0, 0, none⟩ = some (.int .i64 ep) ∧ W'.cell? ⟨b0, 1, none⟩ = some (.slice A n c) := fun W' hc => by
    have h8 := hB1.grew hc
    exact ⟨h8.cell 0, h8.cell 1⟩
  have HS0 := Lib.hid hS0
  clear hS0 hB1
  refine wp_region_held_drew (S := fun W' => W'.cell? ⟨b0, 0, none⟩ = some (.int .i64 ep) ∧ W'.cell? ⟨b0, 1, none⟩ = some (.slice A n c)) (by kernel_rfl) (HS0.out _ ((Chg.refl _ _).drew)) (fun hHeld => ?_)
  refine wpAnyH_take (i := 0) (v := ?_) rfl (by kernel_rfl) (by kernel_rfl) (by kernel_rfl) (fun _ _ _ h => h) (Or.inl ⟨by rfl, ?_⟩) hHeld ?_
  rotate_left
  · (intro w hSw; (try dsimp only at hSw); go_simp) <;> with_reducible rfl
  (try simp only [Act.put, List.setIfInBounds_toArray, List.set_cons_zero, List.set_cons_succ, List.getElem_toArray, List.getElem_cons_zero, List.getElem_cons_succ])
  refine wpAnyH_take (i := 1) (v := ?_) rfl (by kernel_rfl) (by kernel_rfl) (by kernel_rfl) (fun _ _ _ h => h) (Or.inl ⟨by rfl, ?_⟩) hHeld ?_
  rotate_left
  · (intro w hSw; (try dsimp only at hSw); go_simp) <;> with_reducible rfl
  (try simp only [Act.put, List.setIfInBounds_toArray, List.set_cons_zero, List.set_cons_succ, List.getElem_toArray, List.getElem_cons_zero, List.getElem_cons_succ])
  refine wpAnyH_ready (rs := [2]) (by kernel_rfl) (by simp) ?_
  refine AllReadyH.cons rfl (fun K hK => ?_) AllReadyH.nil
  go_simp
  refine (dsize_any d F D _ (H.out.1.grew ((Chg.refl _ _).drew))).mono ?_
  rintro e w2 ⟨rfl, rfl⟩
  refine hK.out _ _ (HS0.out _ ((Chg.refl _ _).drew)) (fun hHeld => ?_)
  clear hK K
  (try simp only [Act.put, List.setIfInBounds_toArray, List.set_cons_zero, List.set_cons_succ, List.getElem_toArray, List.getElem_cons_zero, List.getElem_cons_succ])
  refine wpAnyH_ready (rs := [3]) (by kernel_rfl) (by simp) ?_
  refine AllReadyH.cons rfl (fun K hK => ?_) AllReadyH.nil
  go_simp
  have hby := rbytes_ok ep l D.sz A c W1.drew (H.out.2.2.2.1.grew ((Chg.refl _ _).drew)) h1 h2 (by rw [H.out.2.2.2.2.2.2.1]; exact hl) H.out.2.2.2.2.1 hsm.2.2.2 H.out.2.2.2.2.2.1
  rw [H.out.2.2.2.2.2.2.1] at hby
  refine hby.mono ?_
  clear hby
  rintro e w3 ⟨A3, c3, rfl, ho3, hg3⟩
  have H3 := Lib.hid (And.intro ho3 (show Grew W1 w3 from Grew.trans ((Chg.refl NoF W1).drew) hg3))
  clear ho3 hg3
  refine hK.out _ _ (HS0.out _ H3.out.2) (fun hHeld => ?_)
  clear hK K
  (try simp only [Act.put, List.setIfInBounds_toArray, List.set_cons_zero, List.set_cons_succ, List.getElem_toArray, List.getElem_cons_zero, List.getElem_cons_succ])
  refine wpAnyH_ready (rs := [4]) (by kernel_rfl) (by simp) ?_
  refine AllReadyH.cons rfl (fun K hK => ?_) AllReadyH.nil
  go_simp
  refine hK.out _ _ hHeld (fun hHeld => ?_)
  clear hK K
  (try simp only [Act.put, List.setIfInBounds_toArray, List.set_cons_zero, List.set_cons_succ, List.getElem_toArray, List.getElem_cons_zero, List.getElem_cons_succ])
  refine wpAnyH_take (i := 5) (v := ?_) rfl (by kernel_rfl) (by kernel_rfl) (by kernel_rfl) (fun _ _ _ h => h) (Or.inl ⟨by rfl, ?_⟩) hHeld ?_
  rotate_left
  · (intro w hSw; (try dsimp only at hSw); go_simp) <;> with_reducible rfl
  (try simp only [Act.put, List.setIfInBounds_toArray, List.set_cons_zero, List.set_cons_succ, List.getElem_toArray, List.getElem_cons_zero, List.getElem_cons_succ])
  refine wpAnyH_take (i := 6) (v := ?_) rfl (by kernel_rfl) (by kernel_rfl) (by kernel_rfl) (fun _ _ _ h => h) (Or.inl ⟨by rfl, ?_⟩) hHeld ?_
  rotate_left
  · (intro w hSw; (try dsimp only at hSw); go_simp) <;> with_reducible rfl
  (try simp only [Act.put, List.setIfInBounds_toArray, List.set_cons_zero, List.set_cons_succ, List.getElem_toArray, List.getElem_cons_zero, List.getElem_cons_succ])
  refine wpAnyH_ready (rs := [7]) (by kernel_rfl) (by simp) ?_
  refine AllReadyH.cons rfl (fun K hK => ?_) AllReadyH.nil
  go_simp
  refine hK.out _ _ hHeld (fun hHeld => ?_)
  clear hK K
  (try simp only [Act.put, List.setIfInBounds_toArray, List.set_cons_zero, List.set_cons_succ, List.getElem_toArray, List.getElem_cons_zero, List.getElem_cons_succ])
  refine wpAnyH_ready (rs := [8]) (by kernel_rfl) (by simp) ?_
  refine AllReadyH.cons rfl (fun K hK => ?_) AllReadyH.nil
  go_simp
  refine hK.out _ _ hHeld (fun hHeld => ?_)
  clear hK K
  (try simp only [Act.put, List.setIfInBounds_toArray, List.set_cons_zero, List.set_cons_succ, List.getElem_toArray, List.getElem_cons_zero, List.getElem_cons_succ])
  refine wpAnyH_done (by kernel_rfl) ?_ _
  have c0 := (HS0.out _ H3.out.2).1
  have c1 := (HS0.out _ H3.out.2).2
  clear hHeld HS0
  obtain ⟨gA, rfl, hgA⟩ := own_block H3.out.1 (by omega)
  have hd3 : DS w3 d F D := H.out.1.grew H3.out.2
  obtain ⟨nD, hnD⟩ : ∃ nD, D.n = nD := ⟨_, rfl⟩
  have hdn : 2 ≤ nD := hnD ▸ hn
  have t1 : decide ((nD : Int) < 2) = false := decide_eq_false (by omega)
  have hse := dsectors_any d F D w3 hd3
  rw [hnD] at hse
  have hsl := slot_any ep q A n c w3 (by omega) hqq
  have hlen := rootL_len H.out.2.2.2.2.2.1
  have H4 := Lib.hid (And.intro hd3 (And.intro hse (And.intro hsl hlen)))
  have hgF : ¬ F gA := fun e => by have := (H3.out.1.lt gA rfl).1; have := hd3.2 gA e; have := H.out.1.2 gA e; have h9 : W1.drew.heap.size = W1.heap.size := rfl; omega
  have HgF := Lib.hid hgF
  clear hd3 hse hsl hlen hgF
  go_wp2_with (first
    | (go_at_call 21; (refine H4.out.2.1.mono ?_); rintro e w4 ⟨rfl, rfl⟩)
    | (go_at_call 47; (refine H4.out.2.2.1.mono ?_); rintro e w4 ⟨rfl, hg4⟩; have H5 := Lib.hid hg4; clear hg4))
  have hwr := dwrite_ok d (q : Int) (rootL ep l D.sz) (some ⟨gA, 0, none⟩) (by simp) c3 F D w4 (H4.out.1.grew H5.out) H.out.2.1 H.out.2.2.1 (by omega) (by omega) H4.out.2.2.2 (by rw [H4.out.2.2.2]; exact (Sl.of_own (own_base H3.out.1 (Nat.zero_le _))).grew H5.out)
  rw [H4.out.2.2.2] at hwr
  have HW := Lib.hid hwr
  clear hwr c0 c1
  refine HW.out.mono ?_
  rintro e w5 ⟨rfl, F5, hd5, hc5, hn5⟩
  have hF5 : Chg F w w5 ∧ ∀ j, F5 j → F j ∨ w.heap.size ≤ j := ⟨Grew.then H.out.2.2.2.2.2.2.2.1 (Grew.then H3.out.2 (Grew.then H5.out hc5)), fun j hj => (hn5 j hj).imp id fun e => by have h1 := H.out.2.2.2.2.2.2.2.1.size; have h2 := H3.out.2.size; have h3 := H5.out.size; omega⟩
  have HF := Lib.hid (And.intro (dflush_ok d F5 _ w5 hd5 H.out.2.1 H.out.2.2.1) hF5)
  clear hd5 hc5 hn5 hF5
  go_wp2_with fail
  refine HF.out.1.mono ?_
  rintro e w6 ⟨rfl, F6, h6, hc6, hn6⟩
  have H6 := Lib.hid (And.intro h6 (And.intro hc6 hn6))
  clear h6 hc6 hn6
  go_wp2_with fail
  go_ret
  exact ⟨rfl, F6, H6.out.1, Chg.trans HF.out.2.1 H6.out.2.1 fun i hi e => (HF.out.2.2 i e).resolve_right (by omega), fun j hj => (H6.out.2.2 j hj).elim (HF.out.2.2 j) fun e => .inr (Nat.le_trans HF.out.2.1.size e)⟩

end Go.Proofs.YtjlkpeplldckoaaGreatDoor

/- The pager: a table page's bytes. -/
namespace Go.Proofs.YtjlkpeplldckoaaGreatDoor
open Go.RowKit Go.Maps

theorem own_apart {w : World} {b1 b2 n1 n2 s1 s2 : Nat} {e1 e2 : TypeId} {v1 v2 : Value} {xs ys : List Value} (h : w.ownsRow b1 e1 s1 v1 n1 xs) (k : w.ownsRow b2 e2 s2 v2 n2 ys) (he : e1 ≠ e2) : ∀ g, v2.ownBlock = some g → v1.ownBlock ≠ some g := by
  intro g hg h1
  rcases h.2 with ⟨rfl, _⟩ | ⟨g1, c1, cur1, rfl, _, hh, _⟩
  · simp [Value.ownBlock] at h1
  · have e : g1 = g := by simpa [Value.ownBlock] using h1
    subst e
    exact own_blk_ne k (show Blk w g1 e1 cur1 from hh) (Ne.symm he) hg

theorem pairs_eq {α : Type} (a b : Nat → α) : ∀ r, ((List.range r).flatMap fun i => [a i, b i]) = (List.range (2 * r)).map fun q => if q % 2 = 0 then a (q / 2) else b (q / 2)
  | 0 => rfl
  | r + 1 => by
    rw [List.range_succ, List.flatMap_append, pairs_eq a b r, show 2 * (r + 1) = 2 * r + 1 + 1 by omega, List.range_succ, List.range_succ, List.map_append, List.map_append]
    simp only [List.flatMap_cons, List.flatMap_nil, List.append_nil, List.map_cons, List.map_nil, List.append_assoc, List.cons_append, List.nil_append]
    rw [if_pos (by omega), if_neg (by omega), show 2 * r / 2 = r by omega, show (2 * r + 1) / 2 = r by omega]
/-- A table page's bytes, its first i entries laid. -/
def secL (tb : List Nat) (row sz k i : Nat) : List Int :=
  (List.range sz).map fun q => if q / 2 < i ∧ q / 2 < row then (if q % 2 = 0 then ((tb.getD (k * row + q / 2) 0 % 256 : Nat) : Int) else ((tb.getD (k * row + q / 2) 0 / 256 % 256 : Nat) : Int)) else 0
theorem secL_len (tb : List Nat) (row sz k i : Nat) : (secL tb row sz k i).length = sz := by simp [secL]
theorem secL_zero (tb : List Nat) (row sz k : Nat) : secL tb row sz k 0 = List.replicate sz 0 := by
  apply List.ext_getElem (by simp [secL])
  intro q h1 h2
  simp [secL]
theorem secL_step (tb : List Nat) {row sz k i v : Nat} (hi : i < row) (hz : 2 * row ≤ sz) (hv : tb[k * row + i]? = some v) : ((secL tb row sz k i).set (2 * i) ((v % 256 : Nat) : Int)).set (2 * i + 1) ((v / 256 % 256 : Nat) : Int) = secL tb row sz k (i + 1) := by
  have hg : tb.getD (k * row + i) 0 = v := by rw [List.getD_eq_getElem?_getD, hv]; rfl
  apply List.ext_getElem (by simp [secL])
  intro q h1 h2
  have hq : q < sz := by simpa [secL] using h2
  rw [List.getElem_set, List.getElem_set]
  simp only [secL, List.getElem_map, List.getElem_range]
  by_cases e1 : 2 * i + 1 = q
  · subst e1
    rw [if_pos rfl, if_pos ⟨by omega, by omega⟩, if_neg (by omega), show (2 * i + 1) / 2 = i by omega, hg]
  · rw [if_neg e1]
    by_cases e2 : 2 * i = q
    · subst e2
      rw [if_pos rfl, if_pos ⟨by omega, by omega⟩, if_pos (by omega), show 2 * i / 2 = i by omega, hg]
    · rw [if_neg e2]
      have e3 : (q / 2 < i ∧ q / 2 < row) ↔ (q / 2 < i + 1 ∧ q / 2 < row) := by omega
      simp only [e3]
theorem secL_full {tb : List Nat} {row sz k m : Nat} (hz : 2 * row ≤ sz) (hm : m ≤ row) (hl : m < row → tb.length ≤ k * row + m) : secL tb row sz k m = tabL tb row sz k := by
  unfold tabL
  rw [pairs_eq]
  apply List.ext_getElem (by simp [secL]; omega)
  intro q h1 h2
  have hq : q < sz := by simpa [secL] using h1
  simp only [secL, List.getElem_map, List.getElem_range]
  by_cases e1 : q < 2 * row
  · rw [List.getElem_append_left (by simpa using e1)]
    simp only [List.getElem_map, List.getElem_range]
    by_cases e2 : q / 2 < m
    · rw [if_pos ⟨e2, by omega⟩]
    · rw [if_neg (by omega)]
      have e3 : tb.getD (k * row + q / 2) 0 = 0 := by
        rw [List.getD_eq_getElem?_getD, List.getElem?_eq_none (by have := hl (by omega); omega)]; rfl
      rw [e3]
      split <;> rfl
  · rw [List.getElem_append_right (by simpa using e1), if_neg (by omega)]
    simp
/-- Has a table page used pages so far? -/
def someB (tb : List Nat) (row k i : Nat) : Bool := (List.range i).any fun j => tb.getD (k * row + j) 0 != 0
theorem someB_step {tb : List Nat} {row k i v : Nat} (hv : tb[k * row + i]? = some v) : someB tb row k (i + 1) = (someB tb row k i || v != 0) := by
  unfold someB
  rw [List.range_succ, List.any_append]
  simp [List.getD_eq_getElem?_getD, hv]
theorem someB_full {tb : List Nat} {row k m : Nat} (hm : m ≤ row) (hl : m < row → tb.length ≤ k * row + m) : someB tb row k m = someB tb row k row := by
  unfold someB
  rw [Bool.eq_iff_iff]
  simp only [List.any_eq_true, List.mem_range, bne_iff_ne]
  constructor
  · rintro ⟨j, hj, e⟩; exact ⟨j, by omega, e⟩
  · rintro ⟨j, hj, e⟩
    refine ⟨j, ?_, e⟩
    by_cases h : j < m
    · exact h
    · exfalso
      apply e
      rw [List.getD_eq_getElem?_getD, List.getElem?_eq_none (by have := hl (by omega); omega)]
      rfl

set_option maxRecDepth 100000 in
set_option maxHeartbeats 1600000 in
theorem gsector_any (p k : Nat) (F : Nat → Prop) (X : Gp) (w : World) (h : GS w p F X) (hrow : X.row = X.D.sz / 2) (hk : k < 64) (hkr : k * X.row < X.table.length) (hl : X.table.length ≤ 4096) (ht : ∀ s ∈ X.table, s < 4096) :
    Calls Tryz.prog 63 #[.pointer (some ⟨p, 0, none⟩), .int .i64 k] w fun e w' =>
      ∃ A c, e = .returned (.tuple #[.slice A X.D.sz c, .bool (someB X.table X.row k X.row)]) ∧ w'.ownsRow w.heap.size 5 1 (.slice A X.D.sz c) X.D.sz (bv (tabL X.table X.row X.D.sz k)) ∧ Grew w w' := by
  have hsz := gsize_any p F X w h
  obtain ⟨L, d, b, A, ca, vp, vt, vo, h, hF⟩ := h
  have hsm := h.dsk.sml
  obtain ⟨T, hT⟩ : ∃ T, X.table.length = T := ⟨_, rfl⟩
  obtain ⟨row, hr⟩ : ∃ r, X.row = r := ⟨_, rfl⟩
  obtain ⟨sz, hs⟩ : ∃ r, X.D.sz = r := ⟨_, rfl⟩
  obtain ⟨lo, hlo⟩ : ∃ lo, k * row = lo := ⟨_, rfl⟩
  obtain ⟨hi, hhi⟩ : ∃ hi, (if lo + row ≤ T then lo + row else T) = hi := ⟨_, rfl⟩
  have hown := h.tbl
  obtain ⟨At, ct, rfl, hct⟩ := own_shape hown
  obtain ⟨gt, rfl, hgt⟩ := own_block hown (by omega)
  rw [hT] at hct hl hkr hown
  rw [hr] at hrow hkr
  rw [hs] at hsm hsz hrow
  rw [hlo] at hkr
  have hB := h.blk
  rw [hr, hT] at hB
  have hlh : lo ≤ hi ∧ hi ≤ T ∧ hi ≤ lo + row := by rw [← hhi]; split <;> omega
  obtain ⟨h1, h2, h3⟩ := hlh
  have q1 : (k : Int) * (row : Int) = (lo : Int) := by rw [← hlo]; simp
  have q2 : ((k : Int) + 1) * (row : Int) = ((lo + row : Nat) : Int) := by rw [Int.add_mul, q1]; simp
  have v1 : hi ≤ ct := by omega
  have v2 : ¬ (ct = lo) := by omega
  have w1 : IntKind.i64.wrap (lo : Int) = (lo : Int) := wrap_nat (by omega)
  have w3 : IntKind.i64.wrap ((k : Int) + 1) = (k : Int) + 1 := by have := wrap_nat (n := k + 1) (by omega); simpa using this
  have w4 : IntKind.i64.wrap ((lo + row : Nat) : Int) = ((lo + row : Nat) : Int) := wrap_nat (by omega)
  have w5 : min ((lo + row : Nat) : Int) (T : Int) = (hi : Int) := by rw [← hhi]; split <;> omega
  have w6 : min ((lo : Int) + (row : Int)) (T : Int) = (hi : Int) := by rw [← w5]; simp
  have w7 : IntKind.i64.wrap ((lo : Int) + (row : Int)) = (lo : Int) + (row : Int) := by rw [← Int.natCast_add]; exact w4
  obtain ⟨w2, hmk0, ho2, hg2, hz2⟩ := make_bytes sz w (by omega)
  obtain ⟨g, hg⟩ : ∃ g, w.heap.size = g := ⟨_, rfl⟩
  rw [hg] at hmk0 ho2
  have hmk : (Instr.makeSlice 38 (.int .i64 sz) (.int .i64 sz)).run Tryz.prog w = .ok (.slice (some ⟨g, 0, none⟩) sz sz) w2 := hmk0
  have hB2 := hB.grew hg2
  obtain ⟨c0, f0, s0⟩ := hB2.facts
  have H := Lib.hid (And.intro hsz (And.intro (own_grew hown hg2) (And.intro ho2 (And.intro hg2 (And.intro ht (And.intro hhi (And.intro hrow (And.intro hlo (And.intro hT hg)))))))))
  rw [hs, hr]
  clear h hF hsz hown hB hB2 ho2 hg2 hz2 hmk0 ht hhi hrow hr hs hlo hT hg
  go_enter Tryz.func63, Tryz.ntmps63
  go_wp2_with (go_at_call 11; (refine H.out.1.mono ?_); rintro e w1 ⟨rfl, rfl⟩)
  have c2 := c0 2
  have c4 := c0 4
  simp only [List.getElem?_toArray, List.getElem?_cons_zero, List.getElem?_cons_succ] at c2 c4
  clear hmk c0 f0
  refine wp_region_held_drew (S := fun W' => W'.cell? ⟨p, 2, none⟩ = some (.int .i64 row) ∧ W'.cell? ⟨p, 4, none⟩ = some (.slice (some ⟨gt, 0, none⟩) T ct)) (by kernel_rfl) ⟨c2, c4⟩ (fun hHeld => ?_)
  refine wpAnyH_take (i := 0) (v := ?_) rfl (by kernel_rfl) (by kernel_rfl) (by kernel_rfl) (fun _ _ _ h => h) (Or.inl ⟨by rfl, ?_⟩) hHeld ?_
  rotate_left
  · (intro w hSw; (try dsimp only at hSw); go_simp) <;> with_reducible rfl
  (try simp only [Act.put, List.setIfInBounds_toArray, List.set_cons_zero, List.set_cons_succ, List.getElem_toArray, List.getElem_cons_zero, List.getElem_cons_succ])
  refine wpAnyH_take (i := 1) (v := ?_) rfl (by kernel_rfl) (by kernel_rfl) (by kernel_rfl) (fun _ _ _ h => h) (Or.inl ⟨by rfl, ?_⟩) hHeld ?_
  rotate_left
  · (intro w hSw; (try dsimp only at hSw); go_simp) <;> with_reducible rfl
  (try simp only [Act.put, List.setIfInBounds_toArray, List.set_cons_zero, List.set_cons_succ, List.getElem_toArray, List.getElem_cons_zero, List.getElem_cons_succ])
  refine wpAnyH_take (i := 2) (v := ?_) rfl (by kernel_rfl) (by kernel_rfl) (by kernel_rfl) (fun _ _ _ h => h) (Or.inl ⟨by rfl, ?_⟩) hHeld ?_
  rotate_left
  · (intro w hSw; (try dsimp only at hSw); go_simp) <;> with_reducible rfl
  (try simp only [Act.put, List.setIfInBounds_toArray, List.set_cons_zero, List.set_cons_succ, List.getElem_toArray, List.getElem_cons_zero, List.getElem_cons_succ])
  refine wpAnyH_take (i := 3) (v := ?_) rfl (by kernel_rfl) (by kernel_rfl) (by kernel_rfl) (fun _ _ _ h => h) (Or.inl ⟨by rfl, ?_⟩) hHeld ?_
  rotate_left
  · (intro w hSw; (try dsimp only at hSw); go_simp) <;> with_reducible rfl
  (try simp only [Act.put, List.setIfInBounds_toArray, List.set_cons_zero, List.set_cons_succ, List.getElem_toArray, List.getElem_cons_zero, List.getElem_cons_succ])
  refine wpAnyH_take (i := 4) (v := ?_) rfl (by kernel_rfl) (by kernel_rfl) (by kernel_rfl) (fun _ _ _ h => h) (Or.inl ⟨by rfl, ?_⟩) hHeld ?_
  rotate_left
  · (intro w hSw; (try dsimp only at hSw); go_simp) <;> with_reducible rfl
  (try simp only [Act.put, List.setIfInBounds_toArray, List.set_cons_zero, List.set_cons_succ, List.getElem_toArray, List.getElem_cons_zero, List.getElem_cons_succ])
  refine wpAnyH_take (i := 5) (v := ?_) rfl (by kernel_rfl) (by kernel_rfl) (by kernel_rfl) (fun _ _ _ h => h) (Or.inl ⟨by rfl, ?_⟩) hHeld ?_
  rotate_left
  · (intro w hSw; (try dsimp only at hSw); go_simp) <;> with_reducible rfl
  (try simp only [Act.put, List.setIfInBounds_toArray, List.set_cons_zero, List.set_cons_succ, List.getElem_toArray, List.getElem_cons_zero, List.getElem_cons_succ])
  refine wpAnyH_take (i := 6) (v := ?_) rfl (by kernel_rfl) (by kernel_rfl) (by kernel_rfl) (fun _ _ _ h => h) (Or.inl ⟨by rfl, ?_⟩) hHeld ?_
  rotate_left
  · (intro w hSw; (try dsimp only at hSw); go_simp) <;> with_reducible rfl
  (try simp only [Act.put, List.setIfInBounds_toArray, List.set_cons_zero, List.set_cons_succ, List.getElem_toArray, List.getElem_cons_zero, List.getElem_cons_succ])
  refine wpAnyH_take (i := 7) (v := ?_) rfl (by kernel_rfl) (by kernel_rfl) (by kernel_rfl) (fun _ _ _ h => h) (Or.inl ⟨by rfl, ?_⟩) hHeld ?_
  rotate_left
  · (intro w hSw; (try dsimp only at hSw); go_simp) <;> with_reducible rfl
  (try simp only [Act.put, List.setIfInBounds_toArray, List.set_cons_zero, List.set_cons_succ, List.getElem_toArray, List.getElem_cons_zero, List.getElem_cons_succ])
  refine wpAnyH_take (i := 8) (v := ?_) rfl (by kernel_rfl) (by kernel_rfl) (by kernel_rfl) (fun _ _ _ h => h) (Or.inl ⟨by rfl, ?_⟩) hHeld ?_
  rotate_left
  · (intro w hSw; (try dsimp only at hSw); go_simp) <;> with_reducible rfl
  (try simp only [Act.put, List.setIfInBounds_toArray, List.set_cons_zero, List.set_cons_succ, List.getElem_toArray, List.getElem_cons_zero, List.getElem_cons_succ])
  refine wpAnyH_take (i := 9) (v := ?_) rfl (by kernel_rfl) (by kernel_rfl) (by kernel_rfl) (fun _ _ _ h => h) (Or.inl ⟨by rfl, ?_⟩) hHeld ?_
  rotate_left
  · (intro w hSw; (try dsimp only at hSw); go_simp) <;> with_reducible rfl
  (try simp only [Act.put, List.setIfInBounds_toArray, List.set_cons_zero, List.set_cons_succ, List.getElem_toArray, List.getElem_cons_zero, List.getElem_cons_succ])
  refine wpAnyH_take (i := 10) (v := ?_) rfl (by kernel_rfl) (by kernel_rfl) (by kernel_rfl) (fun _ _ _ h => h) (Or.inl ⟨by rfl, ?_⟩) hHeld ?_
  rotate_left
  · (intro w hSw; (try dsimp only at hSw); go_simp) <;> with_reducible rfl
  (try simp only [Act.put, List.setIfInBounds_toArray, List.set_cons_zero, List.set_cons_succ, List.getElem_toArray, List.getElem_cons_zero, List.getElem_cons_succ])
  refine wpAnyH_take (i := 11) (v := ?_) rfl (by kernel_rfl) (by kernel_rfl) (by kernel_rfl) (fun _ _ _ h => h) (Or.inl ⟨by rfl, ?_⟩) hHeld ?_
  rotate_left
  · (intro w hSw; (try dsimp only at hSw); go_simp) <;> with_reducible rfl
  (try simp only [Act.put, List.setIfInBounds_toArray, List.set_cons_zero, List.set_cons_succ, List.getElem_toArray, List.getElem_cons_zero, List.getElem_cons_succ])
  refine wpAnyH_take (i := 12) (v := ?_) rfl (by kernel_rfl) (by kernel_rfl) (by kernel_rfl) (fun _ _ _ h => h) (Or.inl ⟨by rfl, ?_⟩) hHeld ?_
  rotate_left
  · (intro w hSw; (try dsimp only at hSw); go_simp) <;> with_reducible rfl
  (try simp only [Act.put, List.setIfInBounds_toArray, List.set_cons_zero, List.set_cons_succ, List.getElem_toArray, List.getElem_cons_zero, List.getElem_cons_succ])
  refine wpAnyH_take (i := 13) (v := ?_) rfl (by kernel_rfl) (by kernel_rfl) (by kernel_rfl) (fun _ _ _ h => h) (Or.inl ⟨by rfl, ?_⟩) hHeld ?_
  rotate_left
  · (intro w hSw; (try dsimp only at hSw); go_simp) <;> with_reducible rfl
  (try simp only [Act.put, List.setIfInBounds_toArray, List.set_cons_zero, List.set_cons_succ, List.getElem_toArray, List.getElem_cons_zero, List.getElem_cons_succ])
  refine wpAnyH_take (i := 14) (v := ?_) rfl (by kernel_rfl) (by kernel_rfl) (by kernel_rfl) (fun _ _ _ h => h) (Or.inl ⟨by rfl, ?_⟩) hHeld ?_
  rotate_left
  · (intro w hSw; (try dsimp only at hSw); go_simp) <;> with_reducible rfl
  (try simp only [Act.put, List.setIfInBounds_toArray, List.set_cons_zero, List.set_cons_succ, List.getElem_toArray, List.getElem_cons_zero, List.getElem_cons_succ])
  refine wpAnyH_take (i := 15) (v := ?_) rfl (by kernel_rfl) (by kernel_rfl) (by kernel_rfl) (fun _ _ _ h => h) (Or.inl ⟨by rfl, ?_⟩) hHeld ?_
  rotate_left
  · (intro w hSw; (try dsimp only at hSw); go_simp) <;> with_reducible rfl
  (try simp only [Act.put, List.setIfInBounds_toArray, List.set_cons_zero, List.set_cons_succ, List.getElem_toArray, List.getElem_cons_zero, List.getElem_cons_succ])
  refine wpAnyH_take (i := 16) (v := ?_) rfl (by kernel_rfl) (by kernel_rfl) (by kernel_rfl) (fun _ _ _ h => h) (Or.inl ⟨by rfl, ?_⟩) hHeld ?_
  rotate_left
  · (intro w hSw; (try dsimp only at hSw); go_simp) <;> with_reducible rfl
  (try simp only [Act.put, List.setIfInBounds_toArray, List.set_cons_zero, List.set_cons_succ, List.getElem_toArray, List.getElem_cons_zero, List.getElem_cons_succ])
  refine wpAnyH_take (i := 17) (v := ?_) rfl (by kernel_rfl) (by kernel_rfl) (by kernel_rfl) (fun _ _ _ h => h) (Or.inl ⟨by rfl, ?_⟩) hHeld ?_
  rotate_left
  · (intro w hSw; (try dsimp only at hSw); go_simp) <;> with_reducible rfl
  (try simp only [Act.put, List.setIfInBounds_toArray, List.set_cons_zero, List.set_cons_succ, List.getElem_toArray, List.getElem_cons_zero, List.getElem_cons_succ])
  refine wpAnyH_take (i := 18) (v := ?_) rfl (by kernel_rfl) (by kernel_rfl) (by kernel_rfl) (fun _ _ _ h => h) (Or.inl ⟨by rfl, ?_⟩) hHeld ?_
  rotate_left
  · (intro w hSw; (try dsimp only at hSw); go_simp) <;> with_reducible rfl
  (try simp only [Act.put, List.setIfInBounds_toArray, List.set_cons_zero, List.set_cons_succ, List.getElem_toArray, List.getElem_cons_zero, List.getElem_cons_succ])
  refine wpAnyH_take (i := 19) (v := ?_) rfl (by kernel_rfl) (by kernel_rfl) (by kernel_rfl) (fun _ _ _ h => h) (Or.inl ⟨by rfl, ?_⟩) hHeld ?_
  rotate_left
  · (intro w hSw; (try dsimp only at hSw); go_simp) <;> with_reducible rfl
  (try simp only [Act.put, List.setIfInBounds_toArray, List.set_cons_zero, List.set_cons_succ, List.getElem_toArray, List.getElem_cons_zero, List.getElem_cons_succ])
  refine wpAnyH_take (i := 20) (v := ?_) rfl (by kernel_rfl) (by kernel_rfl) (by kernel_rfl) (fun _ _ _ h => h) (Or.inl ⟨by rfl, ?_⟩) hHeld ?_
  rotate_left
  · (intro w hSw; (try dsimp only at hSw); go_simp) <;> with_reducible rfl
  (try simp only [Act.put, List.setIfInBounds_toArray, List.set_cons_zero, List.set_cons_succ, List.getElem_toArray, List.getElem_cons_zero, List.getElem_cons_succ])
  refine wpAnyH_take (i := 21) (v := ?_) rfl (by kernel_rfl) (by kernel_rfl) (by kernel_rfl) (fun _ _ _ h => h) (Or.inl ⟨by rfl, ?_⟩) hHeld ?_
  rotate_left
  · (intro w hSw; (try dsimp only at hSw); go_simp) <;> with_reducible rfl
  (try simp only [Act.put, List.setIfInBounds_toArray, List.set_cons_zero, List.set_cons_succ, List.getElem_toArray, List.getElem_cons_zero, List.getElem_cons_succ])
  refine wpAnyH_take (i := 22) (v := ?_) rfl (by kernel_rfl) (by kernel_rfl) (by kernel_rfl) (fun _ _ _ h => h) (Or.inl ⟨by rfl, ?_⟩) hHeld ?_
  rotate_left
  · (intro w hSw; (try dsimp only at hSw); go_simp) <;> with_reducible rfl
  (try simp only [Act.put, List.setIfInBounds_toArray, List.set_cons_zero, List.set_cons_succ, List.getElem_toArray, List.getElem_cons_zero, List.getElem_cons_succ])
  refine wpAnyH_take (i := 23) (v := ?_) rfl (by kernel_rfl) (by kernel_rfl) (by kernel_rfl) (fun _ _ _ h => h) (Or.inl ⟨by rfl, ?_⟩) hHeld ?_
  rotate_left
  · (intro w hSw; (try dsimp only at hSw); go_simp) <;> with_reducible rfl
  (try simp only [Act.put, List.setIfInBounds_toArray, List.set_cons_zero, List.set_cons_succ, List.getElem_toArray, List.getElem_cons_zero, List.getElem_cons_succ])
  refine wpAnyH_take (i := 24) (v := ?_) rfl (by kernel_rfl) (by kernel_rfl) (by kernel_rfl) (fun _ _ _ h => h) (Or.inl ⟨by rfl, ?_⟩) hHeld ?_
  rotate_left
  · (intro w hSw; (try dsimp only at hSw); go_simp) <;> with_reducible rfl
  (try simp only [Act.put, List.setIfInBounds_toArray, List.set_cons_zero, List.set_cons_succ, List.getElem_toArray, List.getElem_cons_zero, List.getElem_cons_succ])
  refine wpAnyH_take (i := 25) (v := ?_) rfl (by kernel_rfl) (by kernel_rfl) (by kernel_rfl) (fun _ _ _ h => h) (Or.inl ⟨by rfl, ?_⟩) hHeld ?_
  rotate_left
  · (intro w hSw; (try dsimp only at hSw); go_simp) <;> with_reducible rfl
  (try simp only [Act.put, List.setIfInBounds_toArray, List.set_cons_zero, List.set_cons_succ, List.getElem_toArray, List.getElem_cons_zero, List.getElem_cons_succ])
  refine wpAnyH_done (by kernel_rfl) ?_ _
  clear hHeld
  obtain ⟨m, hm⟩ : ∃ m, hi - lo = m := ⟨_, rfl⟩
  rw [hm]
  obtain ⟨W9, hw9⟩ : ∃ W9, w2.drew = W9 := ⟨_, rfl⟩
  have HJ0 := Lib.hid (show W9.ownsRow g 5 1 (.slice (some ⟨g, 0, none⟩) sz sz) sz (bv (secL X.table row sz k 0)) ∧ W9.ownsRow 0 3 1 (.slice (some ⟨gt, 0, none⟩) T ct) T (nv X.table) ∧ Grew w W9 from by
    subst hw9
    rw [secL_zero]
    exact ⟨H.out.2.2.1, H.out.2.1, H.out.2.2.2.1.drew⟩)
  have HM := Lib.hid hm
  rw [hw9]
  clear hm hw9 w1 w3 w4 w5 w6 w7 v1 v2 c2 c4
  have hm1 : m ≤ row := by have := HM.out; omega
  have hm2 : lo + m ≤ T := by have := HM.out; omega
  have hrz : 2 * row ≤ sz := by have := H.out.2.2.2.2.2.2.1; omega
  go_wp2_with fail
  go_loopg [7, 38] m (fun q sb v wr => ∃ i : Nat, q = m - i ∧ i ≤ m ∧ sb = .bool (someB X.table row k i) ∧ v = .int .i64 i ∧ wr.ownsRow g 5 1 (.slice (some ⟨g, 0, none⟩) sz sz) sz (bv (secL X.table row sz k i)) ∧ wr.ownsRow 0 3 1 (.slice (some ⟨gt, 0, none⟩) T ct) T (nv X.table) ∧ Grew w wr)
  case atStart => exact ⟨0, rfl, Nat.zero_le _, rfl, rfl, HJ0.out.1, HJ0.out.2.1, HJ0.out.2.2⟩
  case round =>
    obtain ⟨i, rfl, hi2, rfl, rfl, ho, ht, hg⟩ := hrel
    by_cases hlt : i < m
    · obtain ⟨s, hs⟩ : ∃ s, X.table[lo + i]? = some s := ⟨_, List.getElem?_eq_getElem (by rw [H.out.2.2.2.2.2.2.2.2.1]; omega)⟩
      have hs4 := H.out.2.2.2.2.1 s (List.mem_of_getElem? hs)
      have ce : wr.cell? ⟨gt, lo + i, none⟩ = some (.int .i64 s) := by
        have := ht.cells (g := gt) rfl (lo + i) (.int .i64 s) (by simp [nv, hs])
        rwa [Addr.add_lit, Nat.zero_add] at this
      obtain ⟨u0, hu0⟩ : ∃ u, wr.cell? ⟨g, 2 * i, none⟩ = some u := by
        rw [ho.cellAt (2 * i) (by omega)]
        exact ⟨_, List.getElem?_eq_getElem (by rw [bv_len, secL_len]; omega)⟩
      obtain ⟨u1, hu1⟩ : ∃ u, wr.cell? ⟨g, 2 * i + 1, none⟩ = some u := by
        rw [ho.cellAt (2 * i + 1) (by omega)]
        exact ⟨_, List.getElem?_eq_getElem (by rw [bv_len, secL_len]; omega)⟩
      have fr0 := ho.frozenAt (2 * i)
      have fr1 := ho.frozenAt (2 * i + 1)
      have sg : g < wr.heap.size := (ho.lt g rfl).2
      have hsm2 : s / 256 ≤ 255 := by omega
      have b1 : 2 * (i : Int) < (sz : Int) := by omega
      have b2 : 2 * (i : Int) + 1 < (sz : Int) := by omega
      have hst := (((ho.stored (2 * i) (.int .u8 ((s : Int) % 256))).1).stored (2 * i + 1) (.int .u8 ((s : Int) / 256))).1
      have hs2 : X.table[k * row + i]? = some s := by rw [H.out.2.2.2.2.2.2.2.1]; exact hs
      have hsb := someB_step (row := row) hs2
      have hn0 : ((s : Int) != 0) = (s != 0) := by cases s <;> simp <;> omega
      obtain ⟨sb, hsbv⟩ : ∃ sb, someB X.table row k i = sb := ⟨_, rfl⟩
      have hwr : Grew w ((wr.setCell ⟨g, 2 * i, none⟩ (.int .u8 ((s : Int) % 256))).setCell ⟨g, 2 * i + 1, none⟩ (.int .u8 ((s : Int) / 256))) := by
        have h9 := H.out.2.2.2.2.2.2.2.2.2
        exact (hg.setCell (p := ⟨g, 2 * i, none⟩) (fun e => absurd e (by simp only; omega)) _).setCell (p := ⟨g, 2 * i + 1, none⟩) (fun e => absurd e (by simp only; omega)) _
      have htt : ((wr.setCell ⟨g, 2 * i, none⟩ (.int .u8 ((s : Int) % 256))).setCell ⟨g, 2 * i + 1, none⟩ (.int .u8 ((s : Int) / 256))).ownsRow 0 3 1 (.slice (some ⟨gt, 0, none⟩) T ct) T (nv X.table) := by
        have hgg : gt ≠ g := fun e => own_apart ho ht (by decide) gt rfl (by simp [Value.ownBlock, e])
        refine own_chg ht (((Chg.refl (fun j => j = g) wr).setCell (p := ⟨g, 2 * i, none⟩) (fun _ => rfl) _).setCell (p := ⟨g, 2 * i + 1, none⟩) (fun _ => rfl) _) (fun q hq e => ?_)
        simp [Value.ownBlock] at hq
        omega
      have hrow : ((bv (secL X.table row sz k i)).set (2 * i) (.int .u8 ((s : Int) % 256))).set (2 * i + 1) (.int .u8 ((s : Int) / 256)) = bv (secL X.table row sz k (i + 1)) := by
        rw [← secL_step X.table (show i < row by omega) hrz hs2]
        unfold bv
        rw [List.map_set, List.map_set, show ((s % 256 : Nat) : Int) = (s : Int) % 256 by omega, show ((s / 256 % 256 : Nat) : Int) = (s : Int) / 256 by omega]
      rw [hrow] at hst
      have HR := Lib.hid (And.intro hst (And.intro htt (And.intro hwr (And.intro hsb hsbv))))
      rw [hsbv]
      clear hs hs2 hst ho ht hg hsb hsbv hwr htt hrow
      cases sb with
      | true =>
        go_wp2
        go_roundg (m - (i + 1))
        case measure => omega
        case rel => exact ⟨i + 1, rfl, by omega, by rw [HR.out.2.2.2.1, HR.out.2.2.2.2]; rfl, by simp, HR.out.1, HR.out.2.1, HR.out.2.2.1⟩
      | false =>
        go_wp2
        go_roundg (m - (i + 1))
        case measure => omega
        case rel => exact ⟨i + 1, rfl, by omega, by rw [HR.out.2.2.2.1, HR.out.2.2.2.2, ← hn0]; rfl, by simp, HR.out.1, HR.out.2.1, HR.out.2.2.1⟩
    · obtain rfl : i = m := by omega
      have hfull := secL_full (tb := X.table) (k := k) hrz hm1 (fun h => by have h1 := HM.out; have h2 := H.out.2.2.2.2.2.1; have h3 := H.out.2.2.2.2.2.2.2.1; have h4 := H.out.2.2.2.2.2.2.2.2.1; split at h2 <;> omega)
      have hsome := someB_full (tb := X.table) (row := row) (k := k) hm1 (fun h => by have h1 := HM.out; have h2 := H.out.2.2.2.2.2.1; have h3 := H.out.2.2.2.2.2.2.2.1; have h4 := H.out.2.2.2.2.2.2.2.2.1; split at h2 <;> omega)
      have HD := Lib.hid (And.intro ho (And.intro hg (And.intro hfull hsome)))
      clear ho ht hg hfull hsome
      go_wp2
      go_ret2
      refine ⟨some ⟨g, 0, none⟩, sz, by rw [← HD.out.2.2.2]; rfl, ?_, HD.out.2.1⟩
      rw [H.out.2.2.2.2.2.2.2.2.2, ← HD.out.2.2.1]
      exact HD.out.1

end Go.Proofs.YtjlkpeplldckoaaGreatDoor

/- The pager: the table pages are written, one by one (plain). -/
namespace Go.Proofs.YtjlkpeplldckoaaGreatDoor
open Go.RowKit Go.Maps

theorem tabL_byte (tb : List Nat) (row sz k : Nat) : ∀ x ∈ tabL tb row sz k, 0 ≤ x ∧ x ≤ 255 := by
  intro x hx
  unfold tabL at hx
  rcases List.mem_append.1 hx with e | e
  · obtain ⟨i, -, e⟩ := List.mem_flatMap.1 e
    simp only [List.mem_cons, List.not_mem_nil, or_false] at e
    rcases e with rfl | rfl <;> omega
  · have := (List.mem_replicate.1 e).2; omega
theorem tabL_len {tb : List Nat} {row sz k : Nat} (h : 2 * row ≤ sz) : (tabL tb row sz k).length = sz := by
  unfold tabL
  rw [pairs_eq]
  simp
  omega
theorem tabL_congr {tb tb' : List Nat} {row sz k : Nat} (h : ∀ i, i < row → tb.getD (k * row + i) 0 = tb'.getD (k * row + i) 0) : tabL tb row sz k = tabL tb' row sz k := by
  unfold tabL
  rw [List.flatMap_def, List.flatMap_def, List.map_congr_left fun i hi => by rw [h i (List.mem_range.1 hi)]]

/-- What turns while the table pages are written. -/
structure TS where
  D : Dk
  fe : List Bool
  fr : Nat → Bool
  lf : List Nat
  pg : List Nat
def TS.left (S : TS) (k s : Nat) : TS := { S with lf := if s ≤ 1 then S.lf else S.lf ++ [s], pg := S.pg.set k 0 }
def TS.lay (S : TS) (k s j : Nat) (bs : List Int) : TS := { D := S.D.wr j bs, fe := trn S.fe j, fr := setB S.fr j true, lf := if s ≤ 1 then S.lf else S.lf ++ [s], pg := S.pg.set k j }
/-- What holds behind some table pages. -/
structure TInv (D0 : Dk) (pg0 tb old : List Nat) (fr0 : Nat → Bool) (S : TS) (dn : Nat → Bool) (rem : Nat) : Prop where
  n : S.D.n = D0.n ∧ S.D.sz = D0.sz ∧ S.D.down = D0.down ∧ S.D.armed = D0.armed
  byt : ∀ s : Nat, s < D0.n → ∀ x ∈ S.D.rd (s : Int), 0 ≤ x ∧ x ≤ 255
  fel : S.fe.length = D0.n
  pgl : S.pg.length = pg0.length
  keep : ∀ k : Nat, dn k = false → S.pg[k]? = pg0[k]?
  new : ∀ k s : Nat, dn k = true → S.pg[k]? = some s → (s = 0 ∧ someB tb (D0.sz / 2) k (D0.sz / 2) = false) ∨ (2 ≤ s ∧ S.fr s = true ∧ fr0 s = false ∧ S.D.rd (s : Int) = tabL tb (D0.sz / 2) D0.sz k ∧ someB tb (D0.sz / 2) k (D0.sz / 2) = true)
  frr : ∀ s, S.fr s = true → fr0 s = true ∨ ∃ k : Nat, dn k = true ∧ S.pg[k]? = some s
  frk : ∀ s, fr0 s = true → S.fr s = true
  frn : ∀ s, S.fr s = true → 2 ≤ s ∧ s < D0.n ∧ (∀ k : Nat, pg0[k]? ≠ some s) ∧ ∀ i : Nat, old[i]? ≠ some s
  jP : ∀ i j s : Nat, S.pg[i]? = some s → S.pg[j]? = some s → s ≠ 0 → i = j
  acct : ∀ s, s < D0.n → (S.fe.getD s false = false ↔ s < 2 ∨ (∃ k : Nat, pg0[k]? = some s) ∨ (∃ i : Nat, old[i]? = some s) ∨ S.fr s = true)
  lf : S.lf.Nodup ∧ ∀ s, s ∈ S.lf ↔ (2 ≤ s ∧ ∃ i : Nat, old[i]? = some s ∧ tb[i]? ≠ some s) ∨ (s ≠ 0 ∧ ∃ k : Nat, dn k = true ∧ pg0[k]? = some s)
  rd : ∀ s : Nat, (S.fr s = true → fr0 s = true) → S.D.rd (s : Int) = D0.rd (s : Int)
  room : rem ≤ cnt S.fe

section
variable {D0 : Dk} {ep : Nat} {pg0 tb old lf0 : List Nat} {fe0 : List Bool} {fr0 tc dn : Nat → Bool} {S : TS} {k s j rem : Nat}
theorem TInv.start (h : Inv D0 ep pg0 tb old fe0 fr0 lf0 tc) : TInv D0 pg0 tb old fr0 ⟨D0, fe0, fr0, lf0, pg0⟩ (fun _ => false) (cntN tc 64) :=
  ⟨⟨rfl, rfl, rfl, rfl⟩, h.byt, h.lens.1, rfl, fun _ _ => rfl, (fun _ _ e => by cases e), fun _ e => .inl e, fun _ e => e, fun s e => ⟨(h.frr s e).1, (h.frr s e).2.1, (h.frr s e).2.2.1, (h.frr s e).2.2.2.1⟩, h.jP, h.acct,
    ⟨h.lf.1, fun s => by rw [h.lf.2 s]; simp⟩, fun _ _ => rfl, h.room⟩
theorem setB_at (f : Nat → Bool) (k : Nat) (v : Bool) (j : Nat) : setB f k v j = if j = k then v else f j := rfl
/-- The old sectors that a table page had. -/
theorem TInv.lfstep (h0 : Inv D0 ep pg0 tb old fe0 fr0 lf0 tc) (h : TInv D0 pg0 tb old fr0 S dn (rem + 1)) (hk : dn k = false) (hs : pg0[k]? = some s) :
    (if s ≤ 1 then S.lf else S.lf ++ [s]).Nodup ∧ ∀ q, q ∈ (if s ≤ 1 then S.lf else S.lf ++ [s]) ↔ (2 ≤ q ∧ ∃ i : Nat, old[i]? = some q ∧ tb[i]? ≠ some q) ∨ (q ≠ 0 ∧ ∃ m : Nat, setB dn k true m = true ∧ pg0[m]? = some q) := by
  have hr : s ≠ 0 → 2 ≤ s := fun e => (h0.rP k s hs e).1
  have hsn : s ≠ 0 → s ∉ S.lf := fun e hm => by
    rcases (h.lf.2 s).1 hm with ⟨h2, i, hi, -⟩ | ⟨-, m, hm1, hm2⟩
    · have := h0.dis k i s hs hi; omega
    · have := h0.jP k m s hs hm2 e
      subst this
      rw [hk] at hm1
      cases hm1
  have key : ∀ q, (q ≠ 0 ∧ ∃ m : Nat, setB dn k true m = true ∧ pg0[m]? = some q) ↔ (q ≠ 0 ∧ ∃ m : Nat, dn m = true ∧ pg0[m]? = some q) ∨ (q ≠ 0 ∧ q = s) := fun q => by
    constructor
    · rintro ⟨e, m, h1, h2⟩
      rw [setB_at] at h1
      by_cases e2 : m = k
      · subst e2; rw [hs] at h2; injection h2 with h2; exact .inr ⟨e, h2.symm⟩
      · rw [if_neg e2] at h1; exact .inl ⟨e, m, h1, h2⟩
    · rintro (⟨e, m, h1, h2⟩ | ⟨e, rfl⟩)
      · refine ⟨e, m, ?_, h2⟩
        rw [setB_at]
        split
        · rfl
        · exact h1
      · exact ⟨e, k, by rw [setB_at, if_pos rfl], hs⟩
  by_cases h1 : s ≤ 1
  · have h00 : s = 0 := by
      by_cases e : s = 0
      · exact e
      · have := hr e; omega
    rw [if_pos h1]
    refine ⟨h.lf.1, fun q => ?_⟩
    rw [h.lf.2 q, key q]
    constructor
    · rintro (e | e)
      · exact .inl e
      · exact .inr (.inl e)
    · rintro (e | e | ⟨e1, e2⟩)
      · exact .inl e
      · exact .inr e
      · omega
  · rw [if_neg h1]
    refine ⟨List.nodup_append.2 ⟨h.lf.1, by simp, fun a ha b hb e => ?_⟩, fun q => ?_⟩
    · simp only [List.mem_singleton] at hb; subst hb; subst e; exact hsn (by omega) ha
    · rw [List.mem_append, List.mem_singleton, h.lf.2 q, key q]
      constructor
      · rintro ((e | e) | e)
        · exact .inl e
        · exact .inr (.inl e)
        · exact .inr (.inr ⟨by omega, e⟩)
      · rintro (e | e | ⟨-, e⟩)
        · exact .inl (.inl e)
        · exact .inl (.inr e)
        · exact .inr e
theorem TInv.skip (h0 : Inv D0 ep pg0 tb old fe0 fr0 lf0 tc) (h : TInv D0 pg0 tb old fr0 S dn (rem + 1)) (hk : dn k = false) (hs : pg0[k]? = some s) (hb : someB tb (D0.sz / 2) k (D0.sz / 2) = false) :
    TInv D0 pg0 tb old fr0 (S.left k s) (setB dn k true) rem := by
  have hkl : k < S.pg.length := by rw [h.pgl]; exact (List.getElem?_eq_some_iff.1 hs).1
  have hpg : S.pg[k]? = some s := by rw [h.keep k hk]; exact hs
  refine ⟨h.n, h.byt, h.fel, by simp [TS.left, h.pgl], fun m hm => ?_, fun m q hm hq => ?_, fun q hq => ?_, h.frk, h.frn, fun a b q ha hb2 hq => ?_, h.acct, h.lfstep h0 hk hs, h.rd, by have := h.room; show rem ≤ cnt S.fe; omega⟩
  · rw [setB_at] at hm
    have hmk : m ≠ k := fun e => by rw [if_pos e] at hm; cases hm
    rw [if_neg hmk] at hm
    simp only [TS.left]
    rw [set_at hkl, if_neg hmk]
    exact h.keep m hm
  · simp only [TS.left] at hq ⊢
    rw [set_at hkl] at hq
    rw [setB_at] at hm
    by_cases e : m = k
    · subst e
      rw [if_pos rfl] at hq
      injection hq with hq
      exact .inl ⟨hq.symm, hb⟩
    · rw [if_neg e] at hm hq
      exact h.new m q hm hq
  · rcases h.frr q hq with e | ⟨m, h1, h2⟩
    · exact .inl e
    · refine .inr ⟨m, ?_, ?_⟩
      · rw [setB_at]; split; rfl; exact h1
      · simp only [TS.left]
        rw [set_at hkl, if_neg (fun e => by subst e; rw [hk] at h1; cases h1)]
        exact h2
  · simp only [TS.left] at ha hb2
    rw [set_at hkl] at ha hb2
    split at ha
    · injection ha with ha; omega
    · split at hb2
      · injection hb2 with hb2; omega
      · exact h.jP a b q ha hb2 hq
/-- A sector that is free is none that counts. -/
theorem TInv.free (h : TInv D0 pg0 tb old fr0 S dn rem) (hj : S.fe.getD j false = true) : 2 ≤ j ∧ j < D0.n ∧ (∀ k : Nat, pg0[k]? ≠ some j) ∧ (∀ i : Nat, old[i]? ≠ some j) ∧ S.fr j = false := by
  have hjn : j < D0.n := by
    by_cases e : j < S.fe.length
    · have := h.fel; omega
    · rw [List.getD_eq_getElem?_getD, List.getElem?_eq_none (by omega)] at hj; simp at hj
  have hn : ¬ (j < 2 ∨ (∃ k : Nat, pg0[k]? = some j) ∨ (∃ i : Nat, old[i]? = some j) ∨ S.fr j = true) := fun e => by
    have := (h.acct j hjn).2 e
    rw [hj] at this
    cases this
  simp only [not_or, not_exists] at hn
  exact ⟨by omega, hjn, hn.2.1, hn.2.2.1, by cases e : S.fr j with | false => rfl | true => exact absurd e hn.2.2.2⟩
theorem TInv.lay (h0 : Inv D0 ep pg0 tb old fe0 fr0 lf0 tc) (h : TInv D0 pg0 tb old fr0 S dn (rem + 1)) (hk : dn k = false) (hs : pg0[k]? = some s) (hb : someB tb (D0.sz / 2) k (D0.sz / 2) = true) (hj : S.fe.getD j false = true) :
    TInv D0 pg0 tb old fr0 (S.lay k s j (tabL tb (D0.sz / 2) D0.sz k)) (setB dn k true) rem := by
  have hkl : k < S.pg.length := by rw [h.pgl]; exact (List.getElem?_eq_some_iff.1 hs).1
  obtain ⟨j2, jn, jp, jo, jf⟩ := h.free hj
  have hjl : j < S.fe.length := by rw [h.fel]; exact jn
  have hf0 : fr0 j = false := by cases e : fr0 j with | false => rfl | true => rw [h.frk j e] at jf; cases jf
  have hjpg : ∀ m : Nat, S.pg[m]? ≠ some j := fun m hm => by
    cases hd : dn m with
    | false => rw [h.keep m hd] at hm; exact jp m hm
    | true =>
      rcases h.new m j hd hm with ⟨e, -⟩ | ⟨-, e, -⟩
      · omega
      · rw [jf] at e; cases e
  refine ⟨h.n, fun q hq x hx => ?_, by simp [TS.lay, trn, h.fel], by simp [TS.lay, h.pgl], fun m hm => ?_, fun m q hm hq => ?_, fun q hq => ?_, fun q hq => ?_, fun q hq => ?_, fun a b q ha hb2 hq => ?_, fun q hq => ?_, h.lfstep h0 hk hs, fun q hq => ?_, ?_⟩
  · simp only [TS.lay] at hx
    rw [Dk.wr_rd] at hx
    split at hx
    · exact tabL_byte _ _ _ _ x hx
    · exact h.byt q hq x hx
  · rw [setB_at] at hm
    have hmk : m ≠ k := fun e => by rw [if_pos e] at hm; cases hm
    rw [if_neg hmk] at hm
    simp only [TS.lay]
    rw [set_at hkl, if_neg hmk]
    exact h.keep m hm
  · simp only [TS.lay] at hq ⊢
    rw [set_at hkl] at hq
    rw [setB_at] at hm
    by_cases e : m = k
    · subst e
      rw [if_pos rfl] at hq
      injection hq with hq
      subst hq
      exact .inr ⟨j2, by rw [setB_at, if_pos rfl], hf0, by rw [Dk.wr_rd, if_pos rfl], hb⟩
    · rw [if_neg e] at hm hq
      rcases h.new m q hm hq with e1 | ⟨e1, e2, e3, e4, e5⟩
      · exact .inl e1
      · have hqj : q ≠ j := by rintro rfl; rw [jf] at e2; cases e2
        exact .inr ⟨e1, by rw [setB_at, if_neg hqj]; exact e2, e3, by rw [Dk.wr_rd, if_neg hqj]; exact e4, e5⟩
  · simp only [TS.lay] at hq ⊢
    rw [setB_at] at hq
    by_cases e : q = j
    · subst e
      exact .inr ⟨k, by rw [setB_at, if_pos rfl], by rw [set_at hkl, if_pos rfl]⟩
    · rw [if_neg e] at hq
      rcases h.frr q hq with e1 | ⟨m, h1, h2⟩
      · exact .inl e1
      · refine .inr ⟨m, by rw [setB_at]; split; rfl; exact h1, ?_⟩
        rw [set_at hkl, if_neg (fun e => by subst e; rw [hk] at h1; cases h1)]
        exact h2
  · simp only [TS.lay]
    rw [setB_at]
    split
    · rfl
    · exact h.frk q hq
  · simp only [TS.lay] at hq
    rw [setB_at] at hq
    by_cases e : q = j
    · subst e; exact ⟨j2, jn, jp, jo⟩
    · rw [if_neg e] at hq; exact h.frn q hq
  · simp only [TS.lay] at ha hb2
    rw [set_at hkl] at ha hb2
    split at ha
    · split at hb2
      · omega
      · injection ha with ha; subst ha; exact absurd hb2 (hjpg b)
    · split at hb2
      · injection hb2 with hb2; subst hb2; exact absurd ha (hjpg a)
      · exact h.jP a b q ha hb2 hq
  · simp only [TS.lay]
    rw [trn_getD hjl, setB_at]
    by_cases e : q = j
    · subst e; rw [if_pos rfl, hj]; simp
    · simp only [e, if_false]
      exact h.acct q hq
  · simp only [TS.lay] at hq ⊢
    have hqj : q ≠ j := by
      rintro rfl
      have := hq (by rw [setB_at, if_pos rfl])
      rw [hf0] at this
      cases this
    rw [Dk.wr_rd, if_neg hqj]
    exact h.rd q fun e => hq (by rw [setB_at, if_neg hqj]; exact e)
  · have h1 := cnt_trn_no hj
    have h2 := h.room
    show rem ≤ cnt (trn S.fe j)
    omega
end

end Go.Proofs.YtjlkpeplldckoaaGreatDoor

/- The pager: the table pages are written, one by one. -/
namespace Go.Proofs.YtjlkpeplldckoaaGreatDoor
open Go.RowKit Go.Maps
open Go.ChangeMaps (setBlock)

/-- A row of the call's own, outside of F. -/
structure OutR (b0 : Nat) (W : World) (F : Nat → Prop) (e : TypeId) (v : Value) (n : Nat) (xs : List Value) : Prop where
  own : W.ownsRow b0 e 1 v n xs
  out : ∀ g, v.ownBlock = some g → ¬ F g
section
variable {b0 n : Nat} {W W' : World} {F F' G : Nat → Prop} {e : TypeId} {v : Value} {xs : List Value}
theorem OutR.rch (h : OutR b0 W F e v n xs) (k : Rch F F' W W') : OutR b0 W' F' e v n xs :=
  ⟨own_chg h.own k.chg h.out, fun g hg q => (k.new g q).elim (h.out g hg) fun q => by have := (h.own.lt g hg).2; omega⟩
theorem OutR.grew (h : OutR b0 W F e v n xs) (hg : Grew W W') : OutR b0 W' F e v n xs := ⟨own_grew h.own hg, h.out⟩
theorem OutR.chg (h : OutR b0 W F e v n xs) (hc : Chg G W W') (hG : ∀ g, v.ownBlock = some g → ¬ G g) : OutR b0 W' F e v n xs := ⟨own_chg h.own hc hG, h.out⟩
end

theorem ChIn.past {w w' : World} {L : Nat → Nat} {o : Cg} {c M1 s1 M2 s2 : Nat} {vw vl : Value} {G : Nat → Prop} (h : ChIn w L o c vw M1 s1 vl M2 s2) (hc : Chg G w w') (hG : ∀ j, L j ≠ 0 → ¬ G j) : ChIn w' L o c vw M1 s1 vl M2 s2 :=
  ⟨h.blk.chg hc (hG _ (by rw [h.lc]; omega)), h.lc, own_chg h.was hc (fun j hj => hG j (by rw [h.lw j hj]; omega)), h.lw, h.fr.chg hc (hG _ (by rw [h.lf]; omega)), h.lf, own_chg h.lft hc (fun j hj => hG j (by rw [h.ll j hj]; omega)), h.ll, h.tch.chg hc (hG _ (by rw [h.lt]; omega)), h.lt, h.n1, h.n2⟩
def Gp.at_ (X : Gp) (o : Cg) (S : TS) : Gp := { X with D := S.D, free := S.fe, op := some { o with fresh := S.fr, left := S.lf } }
theorem mem_keysL {f : Nat → Bool} {N k : Nat} : k ∈ keysL f N ↔ k < N ∧ f k = true := by
  unfold keysL
  rw [List.mem_filter, List.mem_range]
theorem keysL_len (f : Nat → Bool) (N : Nat) : (keysL f N).length = cntN f N := by
  unfold keysL
  rw [cntN_countP, List.countP_eq_length_filter]
theorem keysL_nd (f : Nat → Bool) (N : Nat) : (keysL f N).Nodup := List.nodup_range.filter _
/-- The first i of them are done. -/
def dnOf (ks : List Nat) (i : Nat) : Nat → Bool := fun k => decide (k ∈ ks.take i)
theorem dnOf_zero (ks : List Nat) : dnOf ks 0 = fun _ => false := by funext k; simp [dnOf]
theorem dnOf_step {ks : List Nat} {i k : Nat} (h : ks[i]? = some k) : dnOf ks (i + 1) = setB (dnOf ks i) k true := by
  funext m
  rw [setB_at]
  unfold dnOf
  rw [List.take_add_one, h]
  by_cases e : m = k
  · subst e; simp
  · simp [e]
theorem dnOf_new {ks : List Nat} {i k : Nat} (hn : ks.Nodup) (h : ks[i]? = some k) : dnOf ks i k = false := by
  unfold dnOf
  refine decide_eq_false fun hm => ?_
  obtain ⟨q, hq, e⟩ := List.mem_iff_getElem.1 hm
  rw [List.getElem_take] at e
  rw [List.length_take] at hq
  have h9 : ks[q]? = ks[i]? := by rw [List.getElem?_eq_getElem (show q < ks.length by omega), h, e]
  have := (List.getElem?_inj (by omega) hn).1 h9
  omega
theorem TInv.lfle {D0 : Dk} {ep : Nat} {pg0 tb old lf0 : List Nat} {fe0 : List Bool} {fr0 tc dn : Nat → Bool} {S : TS} {rem : Nat} (h0 : Inv D0 ep pg0 tb old fe0 fr0 lf0 tc) (h : TInv D0 pg0 tb old fr0 S dn rem) : S.lf.length ≤ 4096 := by
  have h1 := List.Nodup.length_le_of_subset h.lf.1 (l₂ := List.range D0.n) fun s hs => List.mem_range.2 (by
    rcases (h.lf.2 s).1 hs with ⟨-, i, hi, -⟩ | ⟨e, k, -, hk⟩
    · exact h0.rO i s hi
    · exact (h0.rP k s hk e).2)
  have := h0.sz
  rw [List.length_range] at h1
  omega

theorem tabs_lt (row need sz : Nat) : ∀ f k0, (∀ j, j < k0 → j * row < need) → ∀ j, j < tabs row need sz f k0 → j * row < need
  | 0, k0, h, j, hj => h j hj
  | f + 1, k0, h, j, hj => by
    unfold tabs at hj
    split at hj
    · rename_i hc
      refine tabs_lt row need sz f (k0 + 1) (fun q hq => ?_) j hj
      by_cases e : q = k0
      · subst e; exact hc.2
      · exact h q (by omega)
    · exact h j hj
theorem cap_lt {n sz k : Nat} (hz : 64 ≤ sz) (hk : k < tabN n sz) : k * (sz / 2) < capN n sz := by
  have h1 := tabs_lt (sz / 2) (n - 2) sz 64 0 (fun j hj => by omega) k hk
  have h2 : (k + 1) * (sz / 2) ≤ tabN n sz * (sz / 2) := Nat.mul_le_mul_right _ hk
  rw [Nat.add_mul, Nat.one_mul] at h2
  unfold capN
  split <;> omega

/-- Between two table pages. -/
structure TabsJ (w wr : World) (p : Nat) (F F' : Nat → Prop) (X : Gp) (o : Cg) (S : TS) (ks : List Nat) (vp vk : Value) : Prop where
  gs : GS wr p F' (X.at_ o S)
  rch : Rch F F' w wr
  row : OutR w.heap.size wr F' 3 vp X.pages.length (nv S.pg)
  keys : OutR w.heap.size wr F' 3 vk ks.length (nv ks)
  ne : ∀ g, vp.ownBlock = some g → vk.ownBlock ≠ some g
/-- What tables leaves. -/
def TabsO (w w' : World) (p : Nat) (F : Nat → Prop) (X : Gp) (o : Cg) (e : Ending) : Prop :=
  ∃ S F' v, e = .returned (.tuple #[v, .int .i64 0]) ∧ TInv X.D X.pages X.table o.was o.fresh S (dnOf (keysL o.touched 64) (keysL o.touched 64).length) 0 ∧ GS w' p F' (X.at_ o S) ∧ Rch F F' w w' ∧ OutR w.heap.size w' F' 3 v X.pages.length (nv S.pg)

section
variable {w wr w' : World} {p : Nat} {F F' F2 : Nat → Prop} {X : Gp} {o : Cg} {S S' : TS} {ks : List Nat} {vp vk : Value}
theorem TabsJ.step (h : TabsJ w wr p F F' X o S ks vp vk) (hg : GS w' p F2 (X.at_ o S')) (hr : Rch F' F2 wr w') (hp : S'.pg = S.pg) : TabsJ w w' p F F2 X o S' ks vp vk :=
  ⟨hg, h.rch.trans hr, by rw [hp]; exact h.row.rch hr, h.keys.rch hr, h.ne⟩
theorem TabsJ.grew (h : TabsJ w wr p F F' X o S ks vp vk) (hg : Grew wr w') : TabsJ w w' p F F' X o S ks vp vk :=
  ⟨h.gs.grew hg, h.rch.trans (Rch.grew hg), h.row.grew hg, h.keys.grew hg, h.ne⟩
/-- An entry of the new table is laid. -/
theorem TabsJ.put {g c : Nat} (h : TabsJ w wr p F F' X o S ks (.slice (some ⟨g, 0, none⟩) X.pages.length c) vk) (h0 : 0 < w.heap.size) (k j : Nat) :
    TabsJ w (wr.setCell ⟨g, k, none⟩ (.int .i64 j)) p F F' X o { S with pg := S.pg.set k j } ks (.slice (some ⟨g, 0, none⟩) X.pages.length c) vk := by
  have hc : Chg (fun q => q = g) wr (wr.setCell ⟨g, k, none⟩ (.int .i64 j)) := (Chg.refl (fun q => q = g) wr).setCell (p := ⟨g, k, none⟩) (fun _ => rfl) _
  have hgF : ¬ F' g := h.row.out g rfl
  have hgw := (h.row.own.lt g rfl).1
  refine ⟨h.gs.chg hc (fun q hq e => hgF (e ▸ hq)) (by omega), ⟨Chg.trans h.rch.chg hc fun i hi e => by omega, fun q hq => h.rch.new q hq⟩, ⟨?_, fun q hq => h.row.out q hq⟩, h.keys.chg hc fun q hq e => h.ne q (by rw [e]; rfl) hq, fun q hq => h.ne q hq⟩
  have := (h.row.own.stored k (.int .i64 j)).1
  have e : nv (S.pg.set k j) = (nv S.pg).set k (.int .i64 (j : Int)) := by simp [nv, List.map_set]
  show (wr.setCell ⟨g, k, none⟩ (.int .i64 (j : Int))).ownsRow _ _ _ _ _ (nv (S.pg.set k j))
  rw [e]
  exact this
end

set_option maxRecDepth 100000 in
set_option maxHeartbeats 6400000 in
theorem gtables_ok (p : Nat) (F : Nat → Prop) (X : Gp) (o : Cg) (w : World) (h : GS w p F X) (hok : X.Ok) (hx : X.op = some o) (hne : 0 < (keysL o.touched 64).length) :
    Calls Tryz.prog 40 #[.pointer (some ⟨p, 0, none⟩)] w fun e w' => TabsO w w' p F X o e := by
  have hv := hok.inv
  simp only [Gp.old, Gp.fr, Gp.lf, Gp.tc, hx] at hv
  have hup := hok.up
  have hrow := hok.row
  have hsz := hv.sz
  have HGS := Lib.hid h
  have hpos := tab_pos h.tab
  obtain ⟨L, d, b, A, ca, vp, vt, vo, h, hF⟩ := h
  have ho := h.opn
  rw [hx] at ho
  obtain ⟨c, vw, M1, s1, vl, M2, s2, rfl, hi2⟩ := ho
  obtain ⟨Ap, cp, rfl, -⟩ := own_shape h.pgs
  have hcl := clone_ints X.pages Ap cp w h.pgs (by have := hv.pg64; omega)
  obtain ⟨c0, f0, s0⟩ := h.blk.facts
  have hn64 : ∀ k, o.touched k = true → k < 64 := hi2.n2.2
  have hopt : X.op = some { o with fresh := o.fresh, left := o.left } := hx
  have H := Lib.hid (And.intro h (And.intro hi2 (And.intro hF (And.intro hcl (And.intro hv (And.intro hup (And.intro hrow (And.intro hsz (And.intro hx hne)))))))))
  clear h hi2 hF hcl hv hup hrow hsz hx hok hopt
  go_enter Tryz.func40, Tryz.ntmps40
  go_wp2_with fail
  refine H.out.2.2.2.1.mono ?_
  rintro e w1 ⟨A1, c1, rfl, ho1, hg1⟩
  have hB1 := H.out.1.blk.grew hg1
  have hB2 := H.out.2.1.blk.grew hg1
  obtain ⟨d0, e0, s0'⟩ := hB1.facts
  obtain ⟨d1, e1, s1'⟩ := hB2.facts
  have H1 := Lib.hid (And.intro ho1 hg1)
  clear ho1 hg1 hB1 hB2 c0 f0 s0
  obtain ⟨W2, hW2⟩ : ∃ W, w1.alloc (.cells #[.map (some M2)] 60) = W := ⟨_, rfl⟩
  go_wp2_with (go_at_call 62; (refine (mkeys_any M2 _ W2 hW2).mono ?_); rintro e w2 ⟨rfl, rfl⟩)
  have hg2 : Grew w1 W2 := hW2 ▸ (Chg.refl _ _).alloc _
  have hbb : Blk W2 w1.heap.size 60 #[.map (some M2)] := hW2 ▸ Blk.new _ _ _
  have hks := ksorted_any w1.heap.size M2 s2 64 o.touched W2 hbb (H.out.2.1.tch.grew (Grew.trans H1.out.2 hg2)) hn64 (by omega) H.out.2.2.2.2.2.2.2.2.2
  have HK := Lib.hid (And.intro hks hg2)
  clear hks hg2 hbb hW2 d0 e0 s0' d1 e1 s1'
  refine HK.out.1.mono ?_
  rintro e w3 ⟨A3, c3, rfl, ho3, hg3⟩
  obtain ⟨ks, hks⟩ : ∃ ks, keysL o.touched 64 = ks := ⟨_, rfl⟩
  have hGw3 : Grew w w3 := Grew.trans H1.out.2 (Grew.trans HK.out.2 hg3)
  have hAt : X.at_ o ⟨X.D, X.free, o.fresh, o.left, X.pages⟩ = X := by
    unfold Gp.at_
    rw [show ({ o with fresh := o.fresh, left := o.left } : Cg) = o from rfl, ← H.out.2.2.2.2.2.2.2.2.1]
  rw [hks] at ho3
  have hJ0 : TabsJ w w3 p F F X o ⟨X.D, X.free, o.fresh, o.left, X.pages⟩ ks (.slice A1 X.pages.length c1) (.slice A3 ks.length c3) := by
    have hl1 := H1.out.1.lt
    have hl3 := ho3.lt
    have hz2 := H1.out.2.size
    have hz3 := HK.out.2.size
    refine ⟨by rw [hAt]; exact HGS.out.grew hGw3, Rch.grew hGw3, ⟨own_grew H1.out.1 (Grew.trans HK.out.2 hg3), fun g hg e => ?_⟩, ⟨own_base ho3 (by omega), fun g hg e => ?_⟩, fun g hg1 hg3' => ?_⟩
    · have h8 := (hl1 g hg).1; have h9 := HGS.out.lt g e; omega
    · have h8 := (hl3 g hg).1; have h9 := HGS.out.lt g e; omega
    · have h8 := (hl1 g hg1).2; have h9 := (hl3 g hg3').1; omega
  have hT0 := TInv.start H.out.2.2.2.2.1
  rw [← keysL_len, hks, ← dnOf_zero ks] at hT0
  have hrm : ks.length - 0 = ks.length := rfl
  have HJ0 := Lib.hid (And.intro hJ0 hT0)
  have HKs := Lib.hid hks
  have hkl : ks.length ≤ 64 := by rw [← hks, keysL_len]; exact cntN_le _ _
  simp only [hks]
  clear ho3 hg3 hGw3 hAt hJ0 hT0 hks hrm hne
  obtain ⟨row, hrw⟩ : ∃ r, X.row = r := ⟨_, rfl⟩
  have HRw := Lib.hid hrw
  go_wp2_with fail
  go_loopg [27] ks.length (fun q v wr => ∃ (i : Nat) (S : TS) (F' : Nat → Prop), q = ks.length - i ∧ i ≤ ks.length ∧ v = .int .i64 i ∧ TabsJ w wr p F F' X o S ks (.slice A1 X.pages.length c1) (.slice A3 ks.length c3) ∧ TInv X.D X.pages X.table o.was o.fresh S (dnOf ks i) (ks.length - i))
  case atStart => exact ⟨0, ⟨X.D, X.free, o.fresh, o.left, X.pages⟩, F, rfl, Nat.zero_le _, rfl, HJ0.out.1, HJ0.out.2⟩
  case round =>
    obtain ⟨i, S, F', rfl, hi, rfl, hJ, hT⟩ := hrel
    have HJ := Lib.hid (And.intro hJ hT)
    clear hJ hT
    by_cases hlt : i < ks.length
    · obtain ⟨k, hk⟩ : ∃ k, ks[i]? = some k := ⟨_, List.getElem?_eq_getElem hlt⟩
      have hkm : k ∈ keysL o.touched 64 := by rw [HKs.out]; exact List.mem_of_getElem? hk
      obtain ⟨hk64, hkt⟩ := mem_keysL.1 hkm
      have hkp : k < X.pages.length := H.out.2.2.2.2.1.tc6 k hkt
      have hkS : k < S.pg.length := by rw [HJ.out.2.pgl]; exact hkp
      have hdn : dnOf ks i k = false := dnOf_new (HKs.out ▸ keysL_nd _ _) hk
      obtain ⟨s, hs⟩ : ∃ s, X.pages[k]? = some s := ⟨_, List.getElem?_eq_getElem hkp⟩
      have hsS : S.pg[k]? = some s := by rw [HJ.out.2.keep k hdn]; exact hs
      obtain ⟨gq, rfl, hgq⟩ := own_block HJ.out.1.row.own (by omega)
      obtain ⟨g3, rfl, hg3⟩ := own_block HJ.out.1.keys.own (by omega)
      have ck : wr.cell? ⟨g3, i, none⟩ = some (.int .i64 k) := by
        have := HJ.out.1.keys.own.cells (g := g3) rfl i (.int .i64 k) (by simp [nv, hk])
        rwa [Addr.add_lit, Nat.zero_add] at this
      have cs : wr.cell? ⟨gq, k, none⟩ = some (.int .i64 s) := by
        have := HJ.out.1.row.own.cells (g := gq) rfl k (.int .i64 s) (by simp [nv, hsS])
        rwa [Addr.add_lit, Nat.zero_add] at this
      have hfs : S.fr s = false := by
        cases e : S.fr s with
        | false => rfl
        | true => exact absurd hs ((HJ.out.2.frn s e).2.2.1 k)
      have hsn : s ≠ 0 → s < X.D.n := fun e => (H.out.2.2.2.2.1.rP k s hs e).2
      have hfl : S.fe.length ≤ 4096 := by have := HJ.out.2.fel; have := H.out.2.2.2.2.2.2.2.1; omega
      have hlv := gleave_any p s F' (X.at_ o S) { o with fresh := S.fr, left := S.lf } wr HJ.out.1.gs rfl hfl (fun h2 => ⟨by have h8 := HJ.out.2.fel; have h9 := hsn (by omega); show s < S.fe.length; omega, fun e => by rw [show ({ o with fresh := S.fr, left := S.lf } : Cg).fresh s = S.fr s from rfl, hfs] at e; cases e⟩) (by have := TInv.lfle H.out.2.2.2.2.1 HJ.out.2; show S.lf.length ≤ 100000; omega)
      have hle : (X.at_ o S).leave { o with fresh := S.fr, left := S.lf } s = X.at_ o { S with lf := if s ≤ 1 then S.lf else S.lf ++ [s] } := by
        unfold Gp.leave Gp.left Gp.at_
        by_cases h1 : s ≤ 1
        · rw [if_pos h1, if_pos h1]
        · rw [if_neg h1, if_neg h1]
          simp only [hfs]
          rfl
      rw [hle] at hlv
      obtain ⟨lf', hlf⟩ : ∃ lf', (if s ≤ 1 then S.lf else S.lf ++ [s]) = lf' := ⟨_, rfl⟩
      rw [hlf] at hlv
      have HLf := Lib.hid hlf
      have HLv := Lib.hid (And.intro hlv (And.intro hk (And.intro hdn (And.intro hs (And.intro hfs hkt)))))
      clear hlv hle hlf hk hkm hkt hdn hs hsS hfs hsn
      go_wp2_with fail
      refine HLv.out.1.mono ?_
      rintro e w4 ⟨rfl, F4, hg4, hc4, hn4⟩
      have hJ4 := HJ.out.1.step (S' := { S with lf := lf' }) hg4 ⟨hc4, hn4⟩ rfl
      have hJ5 := hJ4.put hpos k 0
      have H4 := Lib.hid (And.intro hJ4 hJ5)
      obtain ⟨u0, hu0⟩ : ∃ u, w4.cell? ⟨gq, k, none⟩ = some u := by
        rw [hJ4.row.own.cellAt k (by omega)]
        exact ⟨_, List.getElem?_eq_getElem (by rw [nv_len]; exact hkS)⟩
      have fr0 := hJ4.row.own.frozenAt k
      have sgq := (hJ4.row.own.lt gq rfl).2
      clear hg4 hc4 hn4 hJ4 hJ5 cs ck
      go_wp2_with fail
      have hat5 : X.at_ o { S with lf := lf', pg := S.pg.set k 0 } = X.at_ o { S with lf := lf' } := rfl
      have hsec := gsector_any p k F4 (X.at_ o { S with lf := lf', pg := S.pg.set k 0 }) _ H4.out.2.gs (by show X.row = S.D.sz / 2; rw [HJ.out.2.n.2.1]; exact H.out.2.2.2.2.2.2.1) hk64 (by
        show k * X.row < X.table.length
        rw [H.out.2.2.2.2.2.2.1, H.out.2.2.2.2.1.lens.2.2.1]
        exact cap_lt H.out.2.2.2.2.2.2.2.1.2.2.1 (by rw [← H.out.2.2.2.2.1.lens.2.1]; exact hkp)) H.out.2.2.2.2.1.tb4.1 (fun q hq => by
        obtain ⟨m, hm⟩ := List.mem_iff_getElem?.1 hq
        by_cases e : q < 2
        · omega
        · have h9 := H.out.2.2.2.2.2.2.2.1
          rcases H.out.2.2.2.2.1.cur m q hm (by omega) with e1 | e1
          · have := (H.out.2.2.2.2.1.frr q e1).2.1; omega
          · have := H.out.2.2.2.2.1.rO m q e1; omega)
      have hsb : someB X.table X.row k X.row = someB X.table (X.D.sz / 2) k (X.D.sz / 2) := by rw [H.out.2.2.2.2.2.2.1]
      have htl : tabL X.table X.row S.D.sz k = tabL X.table (X.D.sz / 2) X.D.sz k := by rw [H.out.2.2.2.2.2.2.1, HJ.out.2.n.2.1]
      have hsec2 : Calls Tryz.prog 63 #[.pointer (some ⟨p, 0, none⟩), .int .i64 k] (w4.setCell ⟨gq, k, none⟩ (.int .i64 ((0 : Nat) : Int))) fun e w' =>
          ∃ A c, e = .returned (.tuple #[.slice A S.D.sz c, .bool (someB X.table X.row k X.row)]) ∧ w'.ownsRow (w4.setCell ⟨gq, k, none⟩ (.int .i64 ((0 : Nat) : Int))).heap.size 5 1 (.slice A S.D.sz c) S.D.sz (bv (tabL X.table X.row S.D.sz k)) ∧ Grew (w4.setCell ⟨gq, k, none⟩ (.int .i64 ((0 : Nat) : Int))) w' := hsec
      have HSe := Lib.hid (And.intro hsec2 (And.intro hsb htl))
      clear hsec hsec2 hsb htl hat5 hu0 fr0 sgq
      refine HSe.out.1.mono ?_
      rintro e w6 ⟨A6, c6, rfl, ho6, hg6⟩
      have hJ6 := H4.out.2.grew hg6
      have hT := HJ.out.2
      rw [show ks.length - i = (ks.length - (i + 1)) + 1 by omega] at hT
      obtain ⟨sb, hsb⟩ : ∃ sb, someB X.table X.row k X.row = sb := ⟨_, rfl⟩
      have hsb2 := HSe.out.2.1
      rw [hsb] at hsb2
      have H6 := Lib.hid (And.intro hJ6 (And.intro hT (And.intro ho6 (And.intro hg6 hsb2))))
      rw [hsb]
      clear hJ6 hT ho6 hg6 hsb hsb2
      cases sb with
      | false =>
        go_wp2_with fail
        go_roundg (ks.length - (i + 1))
        case measure => omega
        case rel => exact ⟨i + 1, S.left k s, F4, rfl, by omega, by simp, by unfold TS.left; rw [HLf.out]; exact H6.out.1, by rw [dnOf_step HLv.out.2.1]; exact TInv.skip H.out.2.2.2.2.1 H6.out.2.1 HLv.out.2.2.1 HLv.out.2.2.2.1 H6.out.2.2.2.2.symm⟩
      | true =>
        obtain ⟨L6, d6, b6, A6p, ca6, vp6, vt6, vo6, hG6, hF6⟩ := H6.out.1.gs
        obtain rfl : F4 = fun j => L6 j ≠ 0 := funext fun j => propext (hF6 j)
        have ho6 : OpnIn w6 L6 vo6 (some { o with fresh := S.fr, left := lf' }) := hG6.opn
        obtain ⟨c', vw', M1', s1', vl', M2', s2', rfl, hi6⟩ := ho6
        obtain ⟨j, hj, hjl, hjt⟩ := take_there (fe := S.fe) (by have := H6.out.2.1.room; omega)
        obtain ⟨j2, jn, jp, jo, jf⟩ := H6.out.2.1.free hjt
        obtain ⟨gb, rfl, hgb⟩ := own_block H6.out.2.2.1 (by have := HJ.out.2.n.2.1; have := H.out.2.2.2.2.2.2.2.1; omega)
        have hgb4 := (H6.out.2.2.1.lt gb rfl).1
        have hbO : OutR w.heap.size w6 (fun j => L6 j ≠ 0) 5 (.slice (some ⟨gb, 0, none⟩) S.D.sz c6) S.D.sz (bv (tabL X.table X.row S.D.sz k)) := by
          have hz5 := H4.out.2.rch.chg.size
          refine ⟨own_base H6.out.2.2.1 (by omega), fun q hq e => ?_⟩
          simp [Value.ownBlock] at hq
          subst hq
          have h8 : gb < (w4.setCell ⟨gq, k, none⟩ (.int .i64 ((0 : Nat) : Int))).heap.size := H4.out.2.gs.lt gb e
          omega
        obtain ⟨x0, y0, z0⟩ := hG6.blk.facts
        have hptk := ptake_some b6 j S.fe A6p ca6 w6 hG6.pol (by omega) hG6.tab hj
        have H7 := Lib.hid (And.intro hG6 (And.intro hi6 (And.intro hbO (And.intro hptk (And.intro hj (And.intro hjt (And.intro (And.intro j2 (And.intro jn (And.intro jp jo))) jf)))))))
        have hgqb : gq ≠ gb := fun e => by
          have h8 : gq < (w4.setCell ⟨gq, k, none⟩ (.int .i64 ((0 : Nat) : Int))).heap.size := by have := (H4.out.2.row.own.lt gq rfl).2; exact this
          omega
        clear hG6 hi6 hbO hptk hj hjt jp jo jf hF6 hgb4
        go_wp2_with fail
        refine H7.out.2.2.2.1.mono ?_
        rintro e w7 ⟨rfl, h71, h72⟩
        obtain ⟨hG7, ht7⟩ := H7.out.1.pool h71 h72
        have hr7 := (ht7.s (K := fun m => m = 3) H7.out.1.lt rfl (by omega)).rch (by omega) (fun j => Iff.rfl)
        have hJ7 := H6.out.1.step (S' := { S with fe := trn S.fe j, lf := lf', pg := S.pg.set k 0 }) hG7.gs hr7 rfl
        have hb7 := H7.out.2.2.1.rch hr7
        have hi7 := H7.out.2.1.keep ht7 (by omega)
        have hJ8 := hJ7.put hpos k j
        have hc8 : Chg (fun q => q = gq) w7 (w7.setCell ⟨gq, k, none⟩ (.int .i64 j)) := (Chg.refl (fun q => q = gq) w7).setCell (p := ⟨gq, k, none⟩) (fun _ => rfl) _
        have hgqF : ∀ q, L6 q ≠ 0 → q ≠ gq := fun q hq e => hJ7.row.out gq rfl (e ▸ hq)
        have hgw := (hJ7.row.own.lt gq rfl).1
        have hG8 := hG7.chg hc8 hgqF (by omega)
        have hi8 : ChIn (w7.setCell ⟨gq, k, none⟩ (.int .i64 j)) L6 { o with fresh := S.fr, left := lf' } c' vw' M1' s1' vl' M2' s2' := hi7.past hc8 hgqF
        have hb8 := hb7.chg hc8 (fun q hq e => hgqb (by simp [Value.ownBlock] at hq; omega))
        obtain ⟨v0, st, o1, o2, hr1, hr2, hG9, ht9⟩ := hG8.frput hi8 (by have := H.out.2.2.2.2.2.2.2.1; omega) H7.out.2.2.2.2.2.2.2
        simp only [goInt] at hr1 hr2
        have hr9 := (ht9.s (K := fun m => m = 8) hG8.lt rfl (by omega)).rch (by omega) (fun j => Iff.rfl)
        have hJ9 := hJ8.step (S' := { S with fe := trn S.fe j, lf := lf', pg := (S.pg.set k 0).set k j, fr := setB S.fr j true }) hG9.gs hr9 rfl
        have hb9 := hb8.rch hr9
        obtain ⟨u0, hu0⟩ : ∃ u, w7.cell? ⟨gq, k, none⟩ = some u := by
          rw [hJ7.row.own.cellAt k (by omega)]
          exact ⟨_, List.getElem?_eq_getElem (by rw [nv_len, List.length_set]; exact hkS)⟩
        have fr0 := hJ7.row.own.frozenAt k
        have sgq := (hJ7.row.own.lt gq rfl).2
        clear x0 y0 z0
        obtain ⟨x0, y0, z0⟩ := hG7.blk.facts
        obtain ⟨x1, y1, z1⟩ := hi7.blk.facts
        have x9 := hG9.blk.cell 0
        simp only [List.getElem?_toArray, List.getElem?_cons_zero] at x9
        have H9 := Lib.hid (And.intro hG9 (And.intro hJ9 hb9))
        clear hG7 ht7 hr7 hJ7 hb7 hi7 hJ8 hc8 hgqF hG8 hi8 hb8 hG9 ht9 hr9 hJ9 hb9 h71 h72
        go_wp2_with fail
        obtain ⟨W9, hW9⟩ : ∃ W, setBlock (setBlock (w7.setCell ⟨gq, k, none⟩ (.int .i64 j)) M1' o1) M1' o2 = W := ⟨_, rfl⟩
        rw [hW9] at H9 ⊢
        clear hr1 hr2 hu0 fr0 sgq x0 y0 z0 x1 y1 z1 x9 hW9
        have hdw := dwrite_ok d6 j (tabL X.table X.row S.D.sz k) (some ⟨gb, 0, none⟩) (by simp) c6 (fun q => L6 q = 2) S.D W9 H9.out.1.dsk (by rw [HJ.out.2.n.2.2.1]; exact H.out.2.2.2.2.2.1.2.1) (by rw [HJ.out.2.n.2.2.2]; exact H.out.2.2.2.2.2.1.2.2) (by omega) (by have := HJ.out.2.n.1; omega)
          (tabL_len (by rw [HJ.out.2.n.2.1, H.out.2.2.2.2.2.2.1]; omega)) (by have := Sl.of_own (own_base H9.out.2.2.own (Nat.zero_le _)); rw [tabL_len (by rw [HJ.out.2.n.2.1, H.out.2.2.2.2.2.2.1]; omega)]; exact this)
        rw [tabL_len (by rw [HJ.out.2.n.2.1, H.out.2.2.2.2.2.2.1]; omega)] at hdw
        have HDw := Lib.hid hdw
        clear hdw
        refine HDw.out.mono ?_
        rintro e w10 ⟨rfl, h10⟩
        obtain ⟨L10, hG10, ht10⟩ := H9.out.1.disk h10
        have hr10 := (ht10.s (K := fun m => m = 2) H9.out.1.lt rfl (by omega)).rch (by omega) (fun j => Iff.rfl)
        have hJ10 := H9.out.2.1.step (S' := S.lay k s j (tabL X.table X.row S.D.sz k)) (show GS w10 p (fun j => L10 j ≠ 0) (X.at_ o (S.lay k s j (tabL X.table X.row S.D.sz k))) from by
          have e1 : X.at_ o (S.lay k s j (tabL X.table X.row S.D.sz k)) = { X with D := S.D.wr j (tabL X.table X.row S.D.sz k), free := trn S.fe j, op := some { o with fresh := setB S.fr j true, left := lf' } } := by
            unfold Gp.at_ TS.lay
            rw [HLf.out]
          rw [e1]
          exact hG10.gs) hr10 (by unfold TS.lay; simp)
        have hT10 := TInv.lay H.out.2.2.2.2.1 H6.out.2.1 HLv.out.2.2.1 HLv.out.2.2.2.1 H6.out.2.2.2.2.symm H7.out.2.2.2.2.2.1
        rw [← HSe.out.2.2] at hT10
        have H10 := Lib.hid (And.intro hJ10 hT10)
        clear h10 hG10 ht10 hr10 hJ10 hT10
        go_wp2_with fail
        go_roundg (ks.length - (i + 1))
        case measure => omega
        case rel => exact ⟨i + 1, S.lay k s j (tabL X.table X.row S.D.sz k), _, rfl, by omega, by simp, H10.out.1, by rw [dnOf_step HLv.out.2.1]; exact H10.out.2⟩
    · obtain rfl : i = ks.length := by omega
      go_wp2_with fail
      go_ret2
      refine ⟨S, F', _, rfl, ?_, HJ.out.1.gs, HJ.out.1.rch, HJ.out.1.row⟩
      have := HJ.out.2
      rw [Nat.sub_self] at this
      rw [HKs.out]
      exact this

end Go.Proofs.YtjlkpeplldckoaaGreatDoor

/- The pager: what holds behind a commit (plain). -/
namespace Go.Proofs.YtjlkpeplldckoaaGreatDoor
open Go.RowKit Go.Maps

theorem grp_inj : ∀ (m a b : Nat) (x y : List Int), a ≤ m → grp a ++ x = grp b ++ y → a = b ∧ x = y := by
  intro m
  induction m with
  | zero =>
    intro a b x y ha h
    obtain rfl : a = 0 := by omega
    rw [grp_small (u := 0) (by omega)] at h
    by_cases hb : b < 128
    · rw [grp_small hb] at h
      simp only [List.cons_append, List.nil_append, List.cons.injEq] at h
      exact ⟨by omega, h.2⟩
    · rw [grp_more (u := b) (by omega)] at h
      simp only [List.cons_append, List.nil_append, List.cons.injEq] at h
      omega
  | succ m ih =>
    intro a b x y ha h
    by_cases h1 : a < 128
    · rw [grp_small h1] at h
      by_cases hb : b < 128
      · rw [grp_small hb] at h
        simp only [List.cons_append, List.nil_append, List.cons.injEq] at h
        exact ⟨by omega, h.2⟩
      · rw [grp_more (u := b) (by omega)] at h
        simp only [List.cons_append, List.nil_append, List.cons.injEq] at h
        omega
    · rw [grp_more (u := a) (by omega)] at h
      by_cases hb : b < 128
      · rw [grp_small hb] at h
        simp only [List.cons_append, List.nil_append, List.cons.injEq] at h
        omega
      · rw [grp_more (u := b) (by omega)] at h
        simp only [List.cons_append, List.cons.injEq] at h
        obtain ⟨e1, e2⟩ := ih (a / 128) (b / 128) x y (by omega) h.2
        exact ⟨by omega, e2⟩
theorem grps_inj : ∀ (l l' : List Nat), l.length = l'.length → grps l = grps l' → l = l'
  | [], [], _, _ => rfl
  | [], b :: l', h, _ => by simp at h
  | a :: l, [], h, _ => by simp at h
  | a :: l, b :: l', h, e => by
    unfold grps at e
    rw [List.flatMap_cons, List.flatMap_cons] at e
    obtain ⟨e1, e2⟩ := grp_inj _ _ _ _ _ (Nat.le_refl _) e
    obtain rfl := grps_inj l l' (by simpa using h) e2
    obtain rfl : a = b := by omega
    rfl
theorem bodyL_inj {ep ep' : Nat} {l l' : List Nat} (h : bodyL ep l = bodyL ep' l') : ep = ep' ∧ l = l' := by
  unfold bodyL at h
  rw [List.append_assoc, List.append_assoc] at h
  obtain ⟨e1, e2⟩ := grp_inj _ _ _ _ _ (Nat.le_refl _) h
  obtain ⟨e3, e4⟩ := grp_inj _ _ _ _ _ (Nat.le_refl _) e2
  exact ⟨by omega, grps_inj _ _ (by omega) e4⟩

theorem rootL_inj {ep ep' sz : Nat} {l l' : List Nat} (hf : (bodyL ep l).length + 14 ≤ sz) (hz : sz ≤ 4096) (h : rootL ep l sz = rootL ep' l' sz) : ep = ep' ∧ l = l' := by
  refine bodyL_inj ?_
  obtain ⟨B, hB⟩ : ∃ B, bodyL ep l = B := ⟨_, rfl⟩
  obtain ⟨B', hB'⟩ : ∃ B, bodyL ep' l' = B := ⟨_, rfl⟩
  unfold rootL at h
  rw [hB, hB'] at h
  rw [hB] at hf
  rw [hB, hB']
  have hl := congrArg List.length h
  have h8 : ∀ e, (tail8 e).length = 8 := fun e => rfl
  have h4 : ∀ x, (lowB x).length = 4 := fun x => rfl
  have hfl : ∀ (b : List Int) (m : Nat), (fitL b m).length = b.length + (m - 2 - b.length) + 2 := fun b m => by simp [fitL]
  simp only [sealL, List.length_append, h8, h4, hfl] at hl
  have hs : (sealL B (sz - 12)).length = (sealL B' (sz - 12)).length := by simp only [sealL, List.length_append, h4, hfl]; omega
  obtain ⟨h1, -⟩ := List.append_inj h hs
  unfold sealL at h1
  obtain ⟨h2, -⟩ := List.append_inj h1 (by rw [hfl, hfl]; omega)
  unfold fitL at h2
  simp only [List.cons.injEq] at h2
  obtain ⟨e1, e2, e3⟩ := h2
  have hle : B.length = B'.length := by omega
  exact (List.append_inj e3 hle).1

section
variable {D0 : Dk} {ep : Nat} {pg0 tb old lf0 : List Nat} {fe0 : List Bool} {fr0 tc dn : Nat → Bool} {S : TS} {k s j rem : Nat}
theorem getD_some {tb : List Nat} {m s : Nat} (h : tb[m]? = some s) : tb.getD m 0 = s := by rw [List.getD_eq_getElem?_getD, h]; rfl
/-- Where a table page was not touched, its entries are as they were. -/
theorem Inv.same_tab (h0 : Inv D0 ep pg0 tb old fe0 fr0 lf0 tc) {k i : Nat} (hk : tc k = false) (hi : i < D0.sz / 2) : tb.getD (k * (D0.sz / 2) + i) 0 = old.getD (k * (D0.sz / 2) + i) 0 := by
  have hr := h0.row
  have e : (k * (D0.sz / 2) + i) / (D0.sz / 2) = k := by
    rw [Nat.mul_comm, Nat.mul_add_div (by omega), Nat.div_eq_of_lt hi]; rfl
  by_cases h : tb[k * (D0.sz / 2) + i]? = old[k * (D0.sz / 2) + i]?
  · rw [List.getD_eq_getElem?_getD, List.getD_eq_getElem?_getD, h]
  · have := h0.tcd _ h
    rw [e, hk] at this
    cases this
/-- The disk behind the commit: the root is written. -/
def Dk.rooted (D : Dk) (ep : Nat) (pg : List Nat) : Dk := (D.flushed.wr ((ep % 2 : Nat) : Int) (rootL ep pg D.sz)).flushed
theorem Dk.rooted_rd (D : Dk) (ep : Nat) (pg : List Nat) (s : Nat) : (D.rooted ep pg).rd (s : Int) = if s = ep % 2 then rootL ep pg D.sz else D.rd (s : Int) := by
  unfold Dk.rooted
  rw [Dk.flushed_rd, Dk.wr_rd, Dk.flushed_rd]
theorem rootL_byte {ep sz : Nat} {l : List Nat} : ∀ x ∈ rootL ep l sz, 0 ≤ x ∧ x ≤ 255 := by
  intro x hx
  unfold rootL at hx
  rcases List.mem_append.1 hx with e | e
  · unfold sealL at e
    rcases List.mem_append.1 e with e | e
    · exact fitL_byte (bodyL_byte _ _) x e
    · exact lowB_byte (crc_lt (fitL_byte (bodyL_byte _ _))) x e
  · simp only [tail8, List.mem_cons, List.not_mem_nil, or_false] at e
    rcases e with rfl | rfl | rfl | rfl | rfl | rfl | rfl | rfl <;> omega
/-- What holds behind a commit. -/
theorem TInv.commit (h0 : Inv D0 ep pg0 tb old fe0 fr0 lf0 tc) (h : TInv D0 pg0 tb old fr0 S tc rem) (he : ep < 1099511627776) (hf : fitsN pg0.length D0.sz = true) :
    Inv (S.D.rooted (ep + 1) S.pg) (ep + 1) S.pg tb tb (gvn S.fe fun s => decide (s ∈ S.lf)) (fun _ => false) [] (fun _ => false) := by
  have hz := h0.sz
  have hn := h.n
  have hlf2 : ∀ s, s ∈ S.lf → 2 ≤ s := fun s hs => by
    rcases (h.lf.2 s).1 hs with ⟨e, -⟩ | ⟨e, k, -, hk⟩
    · exact e
    · exact (h0.rP k s hk e).1
  have hpg : ∀ (k s : Nat), S.pg[k]? = some s → s ≠ 0 → 2 ≤ s ∧ s < D0.n ∧ (∀ i : Nat, old[i]? ≠ some s) ∧ fr0 s = false := fun k s hk hs => by
    cases hd : tc k with
    | false =>
      rw [h.keep k hd] at hk
      have h1 := h0.rP k s hk hs
      refine ⟨h1.1, h1.2, fun i hi => by have := h0.dis k i s hk hi; omega, ?_⟩
      cases e : fr0 s with
      | false => rfl
      | true => exact absurd hk ((h0.frr s e).2.2.1 k)
    | true =>
      rcases h.new k s hd hk with ⟨e, -⟩ | ⟨e1, e2, e3, -⟩
      · exact absurd e hs
      · have := h.frn s e2; exact ⟨e1, this.2.1, this.2.2.2, e3⟩
  have htb : ∀ (i s : Nat), tb[i]? = some s → s < D0.n := fun i s hi => by
    by_cases e : s < 2
    · omega
    · rcases h0.cur i s hi (by omega) with e1 | e1
      · exact (h0.frr s e1).2.1
      · exact h0.rO i s e1
  have hs4 : ∀ s ∈ S.pg, s < 4096 := fun s hs => by
    obtain ⟨k, hk⟩ := List.mem_iff_getElem?.1 hs
    by_cases e : s = 0
    · omega
    · have := (hpg k s hk e).2.1; omega
  have hfit : (bodyL (ep + 1) S.pg).length + 14 ≤ D0.sz := body_fits (by rw [h.pgl]; exact hf) (by omega) hs4
  have hrd : ∀ (k s : Nat), S.pg[k]? = some s → s ≠ 0 → (S.D.rooted (ep + 1) S.pg).rd (s : Int) = tabL tb (D0.sz / 2) D0.sz k ∧ ∃ i, i < D0.sz / 2 ∧ tb.getD (k * (D0.sz / 2) + i) 0 ≠ 0 := fun k s hk hs => by
    have h1 := hpg k s hk hs
    rw [Dk.rooted_rd, if_neg (by omega)]
    cases hd : tc k with
    | false =>
      have hk0 := hk
      rw [h.keep k hd] at hk0
      have e1 : S.D.rd (s : Int) = D0.rd (s : Int) := h.rd s fun e => absurd hk0 ((h.frn s e).2.2.1 k)
      rw [e1, h0.dur.tabs k s hk0 hs, tabL_congr (fun i hi => (h0.same_tab hd hi).symm)]
      obtain ⟨i, hi, e⟩ := h0.dur.tab1 k s hk0 hs
      exact ⟨rfl, i, hi, by rw [h0.same_tab hd hi]; exact e⟩
    | true =>
      rcases h.new k s hd hk with ⟨e, -⟩ | ⟨e1, e2, e3, e4, e5⟩
      · exact absurd e hs
      · refine ⟨e4, ?_⟩
        unfold someB at e5
        simp only [List.any_eq_true, List.mem_range, bne_iff_ne] at e5
        exact e5
  refine ⟨by rw [show (S.D.rooted (ep + 1) S.pg).n = S.D.n from rfl, show (S.D.rooted (ep + 1) S.pg).sz = S.D.sz from rfl, hn.1, hn.2.1]; exact hz, ?_, ?_, ?_, fun i j s hi hj h2 => h0.jT i j s hi hj h2, h.jP, fun k i s hk hi => ?_, fun s hs => ?_, fun s hs => (by cases hs), fun i s hi _ => .inr hi, fun i j s hi hj h2 => h0.jT i j s hi hj h2, ⟨List.nodup_nil, fun s => ⟨fun e => (by cases e), fun e => by obtain ⟨-, i, h1, h2⟩ := e; exact absurd h1 h2⟩⟩, fun i hi => absurd rfl hi, fun k hk => (by cases hk), ?_, fun s _ _ => rfl, ⟨fun _ => ?_, fun i e' pg' hi hg hp hr => ?_, fun e => (by omega), fun k hk i hi => ?_, fun k s hk hs => ?_, fun k s hk hs => ?_⟩, fun s hs x hx => ?_, by omega⟩
  · refine ⟨by rw [gvn_len, h.fel]; exact hn.1.symm, ?_, ?_, ?_⟩
    · show S.pg.length = tabN S.D.n S.D.sz
      rw [hn.1, hn.2.1, h.pgl]; exact h0.lens.2.1
    · show tb.length = capN S.D.n S.D.sz
      rw [hn.1, hn.2.1]; exact h0.lens.2.2.1
    · show tb.length = capN S.D.n S.D.sz
      rw [hn.1, hn.2.1]; exact h0.lens.2.2.1
  · intro i s hi
    show s < S.D.n
    rw [hn.1]; exact htb i s hi
  · intro k s hk hs
    show 2 ≤ s ∧ s < S.D.n
    rw [hn.1]
    have := hpg k s hk hs
    exact ⟨this.1, this.2.1⟩
  · by_cases e : s = 0
    · omega
    · have h1 := hpg k s hk e
      by_cases e2 : s < 2
      · exact e2
      · rcases h0.cur i s hi (by omega) with e3 | e3
        · rw [h1.2.2.2] at e3; cases e3
        · exact absurd e3 (h1.2.2.1 i)
  · have hsn : s < D0.n := by have : s < S.D.n := hs; omega
    rw [gvn_at, h.fel]
    simp only [hsn, decide_true, Bool.true_and, Bool.or_eq_false_iff, decide_eq_false_iff_not]
    constructor
    · rintro ⟨e1, e2⟩
      rcases (h.acct s hsn).1 e1 with e | ⟨k, hk⟩ | ⟨i, hi⟩ | e
      · exact .inl e
      · by_cases e3 : s = 0
        · exact .inl (by omega)
        · cases hd : tc k with
          | false => exact .inr (.inl ⟨k, by rw [h.keep k hd]; exact hk⟩)
          | true => exact absurd ((h.lf.2 s).2 (.inr ⟨e3, k, hd, hk⟩)) e2
      · by_cases e3 : s < 2
        · exact .inl e3
        · by_cases e4 : tb[i]? = some s
          · exact .inr (.inr (.inl ⟨i, e4⟩))
          · exact absurd ((h.lf.2 s).2 (.inl ⟨by omega, i, hi, e4⟩)) e2
      · rcases h.frr s e with e3 | ⟨k, e3, e4⟩
        · obtain ⟨i, hi⟩ := (h0.frr s e3).2.2.2.2
          exact .inr (.inr (.inl ⟨i, hi⟩))
        · exact .inr (.inl ⟨k, e4⟩)
    · rintro (e | ⟨k, hk⟩ | ⟨i, hi⟩ | e)
      · exact ⟨(h.acct s hsn).2 (.inl e), fun hm => by have := hlf2 s hm; omega⟩
      · by_cases e3 : s = 0
        · exact ⟨(h.acct s hsn).2 (.inl (by omega)), fun hm => by have := hlf2 s hm; omega⟩
        · have h1 := hpg k s hk e3
          cases hd : tc k with
          | false =>
            have hk0 := hk
            rw [h.keep k hd] at hk0
            refine ⟨(h.acct s hsn).2 (.inr (.inl ⟨k, hk0⟩)), fun hm => ?_⟩
            rcases (h.lf.2 s).1 hm with ⟨-, i, hi, -⟩ | ⟨-, m, hm1, hm2⟩
            · exact h1.2.2.1 i hi
            · have := h0.jP k m s hk0 hm2 e3
              subst this
              rw [hd] at hm1
              cases hm1
          | true =>
            rcases h.new k s hd hk with ⟨e, -⟩ | ⟨e1, e2, -⟩
            · exact absurd e e3
            · refine ⟨(h.acct s hsn).2 (.inr (.inr (.inr e2))), fun hm => ?_⟩
              have h9 := h.frn s e2
              rcases (h.lf.2 s).1 hm with ⟨-, i, hi, -⟩ | ⟨-, m, -, hm2⟩
              · exact h9.2.2.2 i hi
              · exact h9.2.2.1 m hm2
      · by_cases e3 : s < 2
        · exact ⟨(h.acct s hsn).2 (.inl e3), fun hm => by have := hlf2 s hm; omega⟩
        · rcases h0.cur i s hi (by omega) with e | e
          · have h9 := h.frn s (h.frk s e)
            refine ⟨(h.acct s hsn).2 (.inr (.inr (.inr (h.frk s e)))), fun hm => ?_⟩
            rcases (h.lf.2 s).1 hm with ⟨-, i', hi', -⟩ | ⟨-, m, -, hm2⟩
            · exact h9.2.2.2 i' hi'
            · exact h9.2.2.1 m hm2
          · refine ⟨(h.acct s hsn).2 (.inr (.inr (.inl ⟨i, e⟩))), fun hm => ?_⟩
            rcases (h.lf.2 s).1 hm with ⟨-, i', hi', hn'⟩ | ⟨-, m, -, hm2⟩
            · have := h0.jO i i' s e hi' (by omega)
              subst this
              exact hn' hi
            · have := h0.dis m i s hm2 e; omega
      · cases e
  · rw [show cntN (fun _ => false) 64 = 0 from cntN_false fun _ _ => rfl]
    exact Nat.zero_le _
  · rw [Dk.rooted_rd, if_pos rfl]; rfl
  · rw [Dk.rooted_rd] at hr
    by_cases e : i = (ep + 1) % 2
    · rw [if_pos e] at hr
      have hr' : rootL (ep + 1) S.pg D0.sz = rootL e' pg' D0.sz := by
        have h9 : (S.D.rooted (ep + 1) S.pg).sz = D0.sz := hn.2.1
        rw [h9] at hr
        rw [← hr, hn.2.1]
      obtain ⟨e1, e2⟩ := rootL_inj hfit hz.2.2.2 hr'
      exact ⟨by omega, fun _ => e2.symm⟩
    · rw [if_neg e] at hr
      have e1 : S.D.rd (i : Int) = D0.rd (i : Int) := h.rd i fun e => by have := (h.frn i e).1; omega
      rw [e1] at hr
      have h9 : (S.D.rooted (ep + 1) S.pg).sz = D0.sz := hn.2.1
      rw [h9] at hr
      obtain ⟨e2, -⟩ := h0.dur.other i e' pg' hi hg hp hr
      exact ⟨by omega, fun e3 => by omega⟩
  · have h9 : (S.D.rooted (ep + 1) S.pg).sz = D0.sz := hn.2.1
    rw [h9] at hi ⊢
    cases hd : tc k with
    | false =>
      rw [h0.same_tab hd hi]
      rw [h.keep k hd] at hk
      exact h0.dur.tab0 k hk i hi
    | true =>
      rcases h.new k 0 hd hk with ⟨-, e⟩ | ⟨e, -⟩
      · unfold someB at e
        have := List.any_eq_false.1 e i (List.mem_range.2 hi)
        simpa using this
      · omega
  · have h9 : (S.D.rooted (ep + 1) S.pg).sz = D0.sz := hn.2.1
    rw [h9]
    exact (hrd k s hk hs).1
  · have h9 : (S.D.rooted (ep + 1) S.pg).sz = D0.sz := hn.2.1
    rw [h9]
    exact (hrd k s hk hs).2
  · rw [Dk.rooted_rd] at hx
    split at hx
    · exact rootL_byte x hx
    · exact h.byt s (by have : s < S.D.n := hs; omega) x hx
end

end Go.Proofs.YtjlkpeplldckoaaGreatDoor

/- The pager: Commit. -/
namespace Go.Proofs.YtjlkpeplldckoaaGreatDoor
open Go.RowKit Go.Maps

section
variable {w w' : World} {L : Nat → Nat} {p d b ca c M1 s1 M2 s2 : Nat} {X : Gp} {o : Cg} {A : Option Addr} {vp vt vw vl v : Value} {vo : Option Addr} {F : Nat → Prop}
/-- No change is open any more. -/
theorem GIn.close (h : GIn w L p X d b A ca vp vt vo) :
    ∃ L', GIn (w.setCell ⟨p, 6, none⟩ (.pointer none)) L' p { X with op := none } d b A ca vp vt none ∧ Rch (fun j => L j ≠ 0) (fun j => L' j ≠ 0) w (w.setCell ⟨p, 6, none⟩ (.pointer none)) := by
  have hc : Chg (fun j => j = p) w (w.setCell ⟨p, 6, none⟩ (.pointer none)) := (Chg.refl (fun j => j = p) w).setCell (p := ⟨p, 6, none⟩) (fun _ => rfl) _
  have hcL : Chg (fun j => L j = 1) w (w.setCell ⟨p, 6, none⟩ (.pointer none)) := hc.mono fun i _ e => e ▸ h.lp
  obtain ⟨L', hL'⟩ : ∃ L' : Nat → Nat, L' = fun j => if L j ≤ 5 then L j else 0 := ⟨_, rfl⟩
  have lo : ∀ j m, m ≠ 0 → m ≤ 5 → (L' j = m ↔ L j = m) := fun j m h0 h4 => by
    rw [hL']
    dsimp only
    split <;> omega
  have hset : ∀ m, m ≠ 0 → m ≤ 5 → (fun j => L' j = m) = (fun j => L j = m) := fun m h1 h2 => funext fun j => propext (lo j m h1 h2)
  have lz : ∀ j, L' j ≠ 0 → L j ≠ 0 := fun j hj e => by rw [hL'] at hj; simp [e] at hj
  refine ⟨L', ⟨?_, (lo p 1 (by omega) (by omega)).2 h.lp, ?_, h.pol.chg hcL fun j hj e => by have := h.lo j hj; omega, fun j hj => (lo j 3 (by omega) (by omega)).2 (h.lo j hj), own_lab h.pgs h.lg hcL (by omega), fun j hj => (lo j 4 (by omega) (by omega)).2 (h.lg j hj),
      own_lab h.tbl h.lb hcL (by omega), fun j hj => (lo j 5 (by omega) (by omega)).2 (h.lb j hj), rfl, fun j hj => Nat.lt_of_lt_of_le (h.lt j (lz j hj)) hc.size, ?_, tab_chg h.tab hcL (by rw [h.l0]; omega)⟩, hc.mono fun i _ e => by rw [e, h.lp]; omega, fun j hj => .inl (lz j hj)⟩
  · have := h.blk.put 6 (.pointer none)
    simpa using this
  · rw [hset 2 (by omega) (by omega)]
    exact h.dsk.chg hcL fun j hj e => by omega
  · rw [hL']; simp [h.l0]
/-- Other table pages, and the next epoch. -/
theorem GIn.pgset {l : List Nat} {b0 e : Nat} (h : GIn w L p X d b A ca vp vt vo) (ho : OutR b0 w (fun j => L j ≠ 0) 3 v l.length (nv l)) (h0 : 0 < b0) (he : (e : Int) = (X.epoch : Int) + 1) :
    ∃ L', GIn ((w.setCell ⟨p, 3, none⟩ v).setCell ⟨p, 1, none⟩ (.int .i64 ((X.epoch : Int) + 1))) L' p { X with pages := l, epoch := e } d b A ca v vt vo ∧ Chg (fun j => L j ≠ 0) w ((w.setCell ⟨p, 3, none⟩ v).setCell ⟨p, 1, none⟩ (.int .i64 ((X.epoch : Int) + 1))) ∧ ∀ j, L' j ≠ 0 → L j ≠ 0 ∨ b0 ≤ j := by
  have hc : Chg (fun j => j = p) w ((w.setCell ⟨p, 3, none⟩ v).setCell ⟨p, 1, none⟩ (.int .i64 ((X.epoch : Int) + 1))) := ((Chg.refl (fun j => j = p) w).setCell (p := ⟨p, 3, none⟩) (fun _ => rfl) _).setCell (p := ⟨p, 1, none⟩) (fun _ => rfl) _
  have hcL : Chg (fun j => L j = 1) w ((w.setCell ⟨p, 3, none⟩ v).setCell ⟨p, 1, none⟩ (.int .i64 ((X.epoch : Int) + 1))) := hc.mono fun i _ e => e ▸ h.lp
  classical
  obtain ⟨L', hL'⟩ : ∃ L' : Nat → Nat, L' = fun j => if v.ownBlock = some j then 4 else if L j = 4 then 0 else L j := ⟨_, rfl⟩
  have hv0 : ∀ j, v.ownBlock = some j → L j = 0 := fun j hj => by
    by_cases e : L j = 0
    · exact e
    · exact absurd e (ho.out j hj)
  have lo : ∀ j m, m ≠ 0 → m ≠ 4 → (L' j = m ↔ L j = m) := fun j m h1 h2 => by
    rw [hL']
    dsimp only
    split
    · rename_i e
      have := hv0 j e
      omega
    · split <;> omega
  have hset : ∀ m, m ≠ 0 → m ≠ 4 → (fun j => L' j = m) = (fun j => L j = m) := fun m h1 h2 => funext fun j => propext (lo j m h1 h2)
  have l4 : ∀ j, v.ownBlock = some j → L' j = 4 := fun j hj => by rw [hL']; dsimp only; rw [if_pos hj]
  have lz : ∀ j, L' j ≠ 0 → L j ≠ 0 ∨ v.ownBlock = some j := fun j hj => by
    by_cases e : v.ownBlock = some j
    · exact .inr e
    · left
      intro e2
      rw [hL'] at hj
      simp [e, e2] at hj
  refine ⟨L', ⟨?_, (lo p 1 (by omega) (by omega)).2 h.lp, ?_, h.pol.chg hcL fun j hj e => by have := h.lo j hj; omega, fun j hj => (lo j 3 (by omega) (by omega)).2 (h.lo j hj), own_base (own_chg ho.own hcL fun j hj e => by have := hv0 j hj; omega) (Nat.zero_le _), l4,
      own_lab h.tbl h.lb hcL (by omega), fun j hj => (lo j 5 (by omega) (by omega)).2 (h.lb j hj), ?_, fun j hj => ?_, ?_, tab_chg h.tab hcL (by rw [h.l0]; omega)⟩, hc.mono fun i _ e => by rw [e, h.lp]; omega, fun j hj => (lz j hj).imp id fun e => (ho.own.lt j e).1⟩
  · have := (h.blk.put 3 v).put 1 (.int .i64 ((X.epoch : Int) + 1))
    rw [he]
    simpa using this
  · rw [hset 2 (by omega) (by omega)]
    exact h.dsk.chg hcL fun j hj e => by omega
  · have hop := h.opn
    show OpnIn _ L' vo X.op
    cases hx : X.op with
    | none => rw [hx] at hop; exact hop
    | some o =>
      rw [hx] at hop
      obtain ⟨c, vw, M1, s1, vl, M2, s2, rfl, hi⟩ := hop
      refine ⟨c, vw, M1, s1, vl, M2, s2, rfl, ⟨hi.blk.chg hcL (by rw [hi.lc]; omega), (lo _ 6 (by omega) (by omega)).2 hi.lc, own_lab hi.was hi.lw hcL (by omega), fun j hj => (lo j 7 (by omega) (by omega)).2 (hi.lw j hj), hi.fr.chg hcL (by rw [hi.lf]; omega), (lo _ 8 (by omega) (by omega)).2 hi.lf,
        own_lab hi.lft hi.ll hcL (by omega), fun j hj => (lo j 9 (by omega) (by omega)).2 (hi.ll j hj), hi.tch.chg hcL (by rw [hi.lt]; omega), (lo _ 10 (by omega) (by omega)).2 hi.lt, hi.n1, hi.n2⟩⟩
  · rcases lz j hj with e | e
    · exact Nat.lt_of_lt_of_le (h.lt j e) hc.size
    · exact Nat.lt_of_lt_of_le (ho.own.lt j e).2 hc.size
  · rw [hL']
    dsimp only
    rw [if_neg (fun e => by have := (ho.own.lt 0 e).1; omega), h.l0]
    simp
end

end Go.Proofs.YtjlkpeplldckoaaGreatDoor

/- The pager: Commit, walked. -/
namespace Go.Proofs.YtjlkpeplldckoaaGreatDoor
open Go.RowKit Go.Maps

/-- A change committed that touched no table page. -/
def Gp.done (X : Gp) (o : Cg) : Gp := { X with free := gvn X.free fun s => decide (s ∈ o.left), op := none }
/-- A change committed. -/
def Gp.comm (X : Gp) (S : TS) : Gp := { X with D := S.D.rooted (X.epoch + 1) S.pg, epoch := X.epoch + 1, pages := S.pg, free := gvn S.fe fun s => decide (s ∈ S.lf), op := none }

theorem TInv.pg4 {D0 : Dk} {ep : Nat} {pg0 tb old lf0 : List Nat} {fe0 : List Bool} {fr0 tc dn : Nat → Bool} {S : TS} {rem : Nat} (h0 : Inv D0 ep pg0 tb old fe0 fr0 lf0 tc) (h : TInv D0 pg0 tb old fr0 S dn rem) : ∀ s ∈ S.pg, s < 4096 := fun s hs => by
  have hz := h0.sz
  obtain ⟨k, hk⟩ := List.mem_iff_getElem?.1 hs
  by_cases e : s = 0
  · omega
  · cases hd : dn k with
    | false =>
      rw [h.keep k hd] at hk
      have := (h0.rP k s hk e).2; omega
    | true =>
      rcases h.new k s hd hk with ⟨e1, -⟩ | ⟨e1, e2, -⟩
      · omega
      · have := (h.frn s e2).2.1; omega
theorem dnOf_all (ks : List Nat) : dnOf ks ks.length = fun s => decide (s ∈ ks) := by funext s; unfold dnOf; rw [List.take_length]

set_option maxRecDepth 100000 in
set_option maxHeartbeats 3200000 in
theorem gcommit_touched (p : Nat) (F : Nat → Prop) (X : Gp) (o : Cg) (w : World) (h : GS w p F X) (hok : X.Ok) (hx : X.op = some o) (hne : 0 < (keysL o.touched 64).length) (hep : X.epoch < 1099511627776) (hfit : fitsN X.pages.length X.D.sz = true) :
    Calls Tryz.prog 17 #[.pointer (some ⟨p, 0, none⟩)] w fun e w' => e = .returned (.int .i64 0) ∧ ∃ S, TInv X.D X.pages X.table o.was o.fresh S o.touched 0 ∧ GTo w w' p F (X.comm S) := by
  have hrd := gready_any p F X w h
  rw [hok.rdy hx] at hrd
  have htb := gtables_ok p F X o w h hok hx hne
  have hv := hok.inv
  simp only [Gp.old, Gp.fr, Gp.lf, Gp.tc, hx] at hv
  have hup := hok.up
  have hpos := tab_pos h.tab
  obtain ⟨L, d, b, A, ca, vp, vt, vo, h, hF⟩ := h
  have ho := h.opn
  rw [hx] at ho
  obtain ⟨c, vw, M1, s1, vl, M2, s2, rfl, hi2⟩ := ho
  obtain ⟨c0, f0, s0⟩ := h.blk.facts
  obtain ⟨c1, f1, s1'⟩ := hi2.blk.facts
  have hlen := hi2.tch.len (t := 60) Tryz.underlying60 3
  have hs2 : 0 < s2 := by rw [hi2.n2.1, ← keysL_len]; exact hne
  have hs2' : s2 ≤ 64 := by rw [hi2.n2.1]; exact cntN_le _ _
  have hdn : dnOf (keysL o.touched 64) (keysL o.touched 64).length = o.touched := by
    rw [dnOf_all]
    funext k
    by_cases e : o.touched k = true
    · rw [e]; exact decide_eq_true (mem_keysL.2 ⟨hi2.n2.2 k e, e⟩)
    · rw [decide_eq_false (fun q => e (mem_keysL.1 q).2)]
      exact (by simpa using e : o.touched k = false).symm
  have t1 : decide ((0 : Int) < (s2 : Int)) = true := decide_eq_true (by omega)
  have H := Lib.hid (And.intro hrd (And.intro htb (And.intro hv (And.intro hup (And.intro hdn (And.intro hx hfit))))))
  clear h hi2 hrd htb hv hup hdn hok hx hfit hF hne
  go_enter Tryz.func17, Tryz.ntmps17
  go_wp2_with (go_at_call 32; (refine H.out.1.mono ?_); rintro e w1 ⟨rfl, rfl⟩)
  clear c0 f0 s0 c1 f1 s1' hlen
  refine H.out.2.1.mono ?_
  rintro e w1 ⟨S, F1, v, rfl, hT, ⟨L1, d1, b1, A1, ca1, vp1, vt1, vo1, hG, hF1⟩, hr1, hO⟩
  obtain rfl : F1 = fun j => L1 j ≠ 0 := funext fun j => propext (hF1 j)
  obtain ⟨Av, cv, rfl, -⟩ := own_shape hO.own
  obtain ⟨cc, vwc, M1c, s1c, vlc, M2c, s2c, rfl, -⟩ := (show OpnIn w1 L1 vo1 (some { o with fresh := S.fr, left := S.lf }) from hG.opn)
  rw [H.out.2.2.2.2.1] at hT
  have hSn := hT.n
  have hpl := hT.pgl
  obtain ⟨x0, y0, z0⟩ := hG.blk.facts
  have hfl := dflush_ok d1 _ S.D w1 hG.dsk (by rw [hSn.2.2.1]; exact H.out.2.2.2.1.2.1) (by rw [hSn.2.2.2]; exact H.out.2.2.2.1.2.2)
  have H1 := Lib.hid (And.intro hG (And.intro hT (And.intro hr1 (And.intro hO (And.intro hfl (And.intro hSn hpl))))))
  clear hG hT hr1 hO hfl hSn hpl hF1
  go_wp2_with fail
  refine H1.out.2.2.2.2.1.mono ?_
  rintro e w2 ⟨rfl, h2⟩
  obtain ⟨L2, hG2, ht2⟩ := H1.out.1.disk h2
  have hr2 := (ht2.s (K := fun m => m = 2) H1.out.1.lt rfl (by omega)).rch (by omega) (fun j => Iff.rfl)
  have hO2 := H1.out.2.2.2.1.rch hr2
  clear x0 y0 z0
  have x0 := (hG2.blk.drew).cell 0
  have x1 := (hG2.blk.drew).cell 1
  have H2 := Lib.hid (And.intro hG2 (And.intro hr2 hO2))
  clear h2 hG2 ht2 hr2 hO2
  have w9 : IntKind.i64.wrap ((X.epoch : Int) + 1) = (X.epoch : Int) + 1 := by have := wrap_nat (n := X.epoch + 1) (by omega); simpa using this
  have x1' : w2.drew.cell? ⟨p, 1, none⟩ = some (.int .i64 X.epoch) := x1
  have x0' : w2.drew.cell? ⟨p, 0, none⟩ = some (.pointer (some ⟨d1, 0, none⟩)) := x0
  clear x0 x1
  go_wp2_with fail
  have hS : w2.drew.cell? ⟨p, 0, none⟩ = some (.pointer (some ⟨d1, 0, none⟩)) ∧ w2.drew.cell? ⟨p, 1, none⟩ = some (.int .i64 X.epoch) := ⟨x0', x1'⟩
  refine wp_region_held_drew (S := fun W' => W'.cell? ⟨p, 0, none⟩ = some (.pointer (some ⟨d1, 0, none⟩)) ∧ W'.cell? ⟨p, 1, none⟩ = some (.int .i64 X.epoch)) (by kernel_rfl) hS (fun hHeld => ?_)
  refine wpAnyH_take (i := 0) (v := ?_) rfl (by kernel_rfl) (by kernel_rfl) (by kernel_rfl) (fun _ _ _ h => h) (Or.inl ⟨by rfl, ?_⟩) hHeld ?_
  rotate_left
  · (intro w hSw; (try dsimp only at hSw); go_simp) <;> with_reducible rfl
  (try simp only [Act.put, List.setIfInBounds_toArray, List.set_cons_zero, List.set_cons_succ, List.getElem_toArray, List.getElem_cons_zero, List.getElem_cons_succ])
  refine wpAnyH_take (i := 1) (v := ?_) rfl (by kernel_rfl) (by kernel_rfl) (by kernel_rfl) (fun _ _ _ h => h) (Or.inl ⟨by rfl, ?_⟩) hHeld ?_
  rotate_left
  · (intro w hSw; (try dsimp only at hSw); go_simp) <;> with_reducible rfl
  (try simp only [Act.put, List.setIfInBounds_toArray, List.set_cons_zero, List.set_cons_succ, List.getElem_toArray, List.getElem_cons_zero, List.getElem_cons_succ])
  refine wpAnyH_take (i := 2) (v := ?_) rfl (by kernel_rfl) (by kernel_rfl) (by kernel_rfl) (fun _ _ _ h => h) (Or.inl ⟨by rfl, ?_⟩) hHeld ?_
  rotate_left
  · (intro w hSw; (try dsimp only at hSw); go_simp) <;> with_reducible rfl
  (try simp only [Act.put, List.setIfInBounds_toArray, List.set_cons_zero, List.set_cons_succ, List.getElem_toArray, List.getElem_cons_zero, List.getElem_cons_succ])
  refine wpAnyH_take (i := 3) (v := ?_) rfl (by kernel_rfl) (by kernel_rfl) (by kernel_rfl) (fun _ _ _ h => h) (Or.inl ⟨by rfl, ?_⟩) hHeld ?_
  rotate_left
  · (intro w hSw; (try dsimp only at hSw); go_simp) <;> with_reducible rfl
  (try simp only [Act.put, List.setIfInBounds_toArray, List.set_cons_zero, List.set_cons_succ, List.getElem_toArray, List.getElem_cons_zero, List.getElem_cons_succ])
  refine wpAnyH_take (i := 4) (v := ?_) rfl (by kernel_rfl) (by kernel_rfl) (by kernel_rfl) (fun _ _ _ h => h) (Or.inl ⟨by rfl, ?_⟩) hHeld ?_
  rotate_left
  · (intro w hSw; (try dsimp only at hSw); go_simp) <;> with_reducible rfl
  (try simp only [Act.put, List.setIfInBounds_toArray, List.set_cons_zero, List.set_cons_succ, List.getElem_toArray, List.getElem_cons_zero, List.getElem_cons_succ])
  refine wpAnyH_take (i := 5) (v := ?_) rfl (by kernel_rfl) (by kernel_rfl) (by kernel_rfl) (fun _ _ _ h => h) (Or.inl ⟨by rfl, ?_⟩) hHeld ?_
  rotate_left
  · (intro w hSw; (try dsimp only at hSw); go_simp) <;> with_reducible rfl
  (try simp only [Act.put, List.setIfInBounds_toArray, List.set_cons_zero, List.set_cons_succ, List.getElem_toArray, List.getElem_cons_zero, List.getElem_cons_succ])
  refine wpAnyH_take (i := 6) (v := ?_) rfl (by kernel_rfl) (by kernel_rfl) (by kernel_rfl) (fun _ _ _ h => h) (Or.inl ⟨by rfl, ?_⟩) hHeld ?_
  rotate_left
  · (intro w hSw; (try dsimp only at hSw); go_simp) <;> with_reducible rfl
  (try simp only [Act.put, List.setIfInBounds_toArray, List.set_cons_zero, List.set_cons_succ, List.getElem_toArray, List.getElem_cons_zero, List.getElem_cons_succ])
  refine wpAnyH_take (i := 7) (v := ?_) rfl (by kernel_rfl) (by kernel_rfl) (by kernel_rfl) (fun _ _ _ h => h) (Or.inl ⟨by rfl, ?_⟩) hHeld ?_
  rotate_left
  · (intro w hSw; (try dsimp only at hSw); go_simp) <;> with_reducible rfl
  (try simp only [Act.put, List.setIfInBounds_toArray, List.set_cons_zero, List.set_cons_succ, List.getElem_toArray, List.getElem_cons_zero, List.getElem_cons_succ])
  refine wpAnyH_take (i := 8) (v := ?_) rfl (by kernel_rfl) (by kernel_rfl) (by kernel_rfl) (fun _ _ _ h => h) (Or.inl ⟨by rfl, ?_⟩) hHeld ?_
  rotate_left
  · (intro w hSw; (try dsimp only at hSw); go_simp) <;> with_reducible rfl
  (try simp only [Act.put, List.setIfInBounds_toArray, List.set_cons_zero, List.set_cons_succ, List.getElem_toArray, List.getElem_cons_zero, List.getElem_cons_succ])
  refine wpAnyH_take (i := 9) (v := ?_) rfl (by kernel_rfl) (by kernel_rfl) (by kernel_rfl) (fun _ _ _ h => h) (Or.inl ⟨by rfl, ?_⟩) hHeld ?_
  rotate_left
  · (intro w hSw; (try dsimp only at hSw); go_simp) <;> with_reducible rfl
  (try simp only [Act.put, List.setIfInBounds_toArray, List.set_cons_zero, List.set_cons_succ, List.getElem_toArray, List.getElem_cons_zero, List.getElem_cons_succ])
  refine wpAnyH_take (i := 10) (v := ?_) rfl (by kernel_rfl) (by kernel_rfl) (by kernel_rfl) (fun _ _ _ h => h) (Or.inl ⟨by rfl, ?_⟩) hHeld ?_
  rotate_left
  · (intro w hSw; (try dsimp only at hSw); go_simp) <;> with_reducible rfl
  (try simp only [Act.put, List.setIfInBounds_toArray, List.set_cons_zero, List.set_cons_succ, List.getElem_toArray, List.getElem_cons_zero, List.getElem_cons_succ])
  refine wpAnyH_ready (rs := [11]) (by kernel_rfl) (by simp) ?_
  refine AllReadyH.cons rfl (fun K hK => ?_) AllReadyH.nil
  go_simp
  have hsv := save_ok d1 (fun q => L2 q = 2) S.D.flushed (X.epoch + 1) S.pg Av cv w2.drew (H2.out.1.dsk.grew ((Chg.refl _ _).drew)) (by rw [← H.out.2.2.2.1.2.1]; exact H1.out.2.2.2.2.2.1.2.2.1) (by rw [← H.out.2.2.2.1.2.2]; exact H1.out.2.2.2.2.2.1.2.2.2) (by have h8 := H.out.2.2.1.sz; have h9 := H1.out.2.2.2.2.2.1.1; show 2 ≤ S.D.n; omega)
    (by have := Sl.of_own (own_base H2.out.2.2.own (Nat.zero_le _)); rw [H1.out.2.2.2.2.2.2]; exact this.grew ((Chg.refl _ _).drew)) (by omega) (by omega) (by rw [H1.out.2.2.2.2.2.2]; exact H.out.2.2.1.pg64) (TInv.pg4 H.out.2.2.1 H1.out.2.1) (by
      show (bodyL (X.epoch + 1) S.pg).length + 14 ≤ S.D.sz
      rw [H1.out.2.2.2.2.2.1.2.1]
      exact body_fits (by rw [H1.out.2.2.2.2.2.2]; exact H.out.2.2.2.2.2.2) (by omega) (TInv.pg4 H.out.2.2.1 H1.out.2.1))
  rw [H1.out.2.2.2.2.2.2, show (((X.epoch + 1 : Nat)) : Int) = (X.epoch : Int) + 1 from by simp] at hsv
  refine hsv.mono ?_
  clear hsv
  rintro e w3 ⟨rfl, h3⟩
  obtain ⟨L3, hG3, ht3⟩ := (H2.out.1.grew ((Chg.refl _ _).drew)).disk h3
  have hr3 := (ht3.s (K := fun m => m = 2) (H2.out.1.grew ((Chg.refl _ _).drew)).lt rfl (by omega)).rch (by omega) (fun j => Iff.rfl)
  have hO3 := (H2.out.2.2.grew ((Chg.refl _ _).drew)).rch hr3
  have hH3 : w3.cell? ⟨p, 0, none⟩ = some (.pointer (some ⟨d1, 0, none⟩)) ∧ w3.cell? ⟨p, 1, none⟩ = some (.int .i64 X.epoch) := ⟨hG3.blk.cell 0, hG3.blk.cell 1⟩
  refine hK.out _ _ hH3 (fun hHeld => ?_)
  clear hK K
  (try simp only [Act.put, List.setIfInBounds_toArray, List.set_cons_zero, List.set_cons_succ, List.getElem_toArray, List.getElem_cons_zero, List.getElem_cons_succ])
  refine wpAnyH_ready (rs := [12]) (by kernel_rfl) (by simp) ?_
  refine AllReadyH.cons rfl (fun K hK => ?_) AllReadyH.nil
  go_simp
  refine hK.out _ _ hH3 (fun hHeld => ?_)
  clear hK K
  (try simp only [Act.put, List.setIfInBounds_toArray, List.set_cons_zero, List.set_cons_succ, List.getElem_toArray, List.getElem_cons_zero, List.getElem_cons_succ])
  refine wpAnyH_done (by kernel_rfl) ?_ _
  clear hHeld hH3 hS x0' x1'
  obtain ⟨L4, hG4, hc4, hn4⟩ := hG3.pgset (e := X.epoch + 1) (l := S.pg) (by rw [H1.out.2.2.2.2.2.2]; exact hO3) hpos (by simp; rfl)
  have hr3F := H1.out.2.2.1.trans (H2.out.2.1.trans ((Rch.grew ((Chg.refl _ _).drew)).trans hr3))
  obtain ⟨y0, y1, y2⟩ := hG3.blk.facts
  obtain ⟨W4, hW4⟩ : ∃ W, (w3.setCell ⟨p, 3, none⟩ (.slice Av X.pages.length cv)).setCell ⟨p, 1, none⟩ (.int .i64 ((X.epoch : Int) + 1)) = W := ⟨_, rfl⟩
  obtain ⟨XC4, hXC⟩ : ∃ Y : Gp, ({ X.comm S with free := S.fe, op := some { o with fresh := S.fr, left := S.lf } } : Gp) = Y := ⟨_, rfl⟩
  have hXop : XC4.op = some { o with fresh := S.fr, left := S.lf } := by rw [← hXC]
  obtain ⟨vp4, hvp4⟩ : ∃ v, Value.slice Av X.pages.length cv = v := ⟨_, rfl⟩
  have hG4' : GIn W4 L4 p XC4 d1 b1 A1 ca1 vp4 vt1 (some ⟨cc, 0, none⟩) := by rw [← hXC, ← hvp4]; exact hW4 ▸ hG4
  have hG4f : GIn W4 L4 p { XC4 with free := S.fe } d1 b1 A1 ca1 vp4 vt1 (some ⟨cc, 0, none⟩) := by rw [show ({ XC4 with free := S.fe } : Gp) = XC4 from by rw [← hXC]]; exact hG4'
  have HXC := Lib.hid hXC
  have hr4 : Rch F (fun j => L4 j ≠ 0) w W4 := ⟨Chg.trans hr3F.chg (hW4 ▸ hc4) fun i hi e => (hr3F.new i e).resolve_right (by omega), fun j hj => (hn4 j hj).elim (hr3F.new j) .inr⟩
  have HW4 := Lib.hid hW4
  obtain ⟨cc', vw4, M14, s14, vl4, M24, s24, e4, hi4⟩ := (show OpnIn W4 L4 (some ⟨cc, 0, none⟩) (some { o with fresh := S.fr, left := S.lf }) from hXop ▸ hG4'.opn)
  obtain rfl : cc = cc' := by injection e4 with e; injection e
  obtain ⟨Al, cl, rfl, -⟩ := own_shape hi4.lft
  obtain ⟨z0, z1, z2⟩ := hG4'.blk.facts
  obtain ⟨z3, z4, z5⟩ := hi4.blk.facts
  have hlf4 := TInv.lfle H.out.2.2.1 H1.out.2.1
  have hfe4 : S.fe.length ≤ 4096 := by have h8 := H1.out.2.1.fel; have h9 := H.out.2.2.1.sz; omega
  have hlff : ∀ s ∈ S.lf, s < S.fe.length ∧ S.fe.getD s false = false := fun s hs => by
    have h8 := H1.out.2.1.fel
    rcases (H1.out.2.1.lf.2 s).1 hs with ⟨-, i, hi, -⟩ | ⟨e, k, -, hk⟩
    · have := H.out.2.2.1.rO i s hi
      exact ⟨by omega, (H1.out.2.1.acct s this).2 (.inr (.inr (.inl ⟨i, hi⟩)))⟩
    · have := (H.out.2.2.1.rP k s hk e).2
      exact ⟨by omega, (H1.out.2.1.acct s this).2 (.inr (.inl ⟨k, hk⟩))⟩
  have HL := Lib.hid (And.intro hG4f (And.intro hi4 (And.intro H1.out.2.1.lf.1 (And.intro hlff (And.intro hr4 hfe4)))))
  clear h3 hG3 ht3 hr3 hO3 hG4 hc4 hn4 hr3F hW4 hG4' hG4f hi4 hr4 e4 hlff hvp4 hXop hXC
  go_wp2_with (rw [HW4.out])
  clear z0 z1 z2 z3 z4 z5 y0 y1 y2
  go_loopg [72] S.lf.length (fun q v wr => ∃ i : Nat, q = S.lf.length - i ∧ i ≤ S.lf.length ∧ v = .int .i64 i ∧ GIn wr L4 p { XC4 with free := gvn S.fe (dnOf S.lf i) } d1 b1 A1 ca1 vp4 vt1 (some ⟨cc, 0, none⟩) ∧ Chg (fun j => L4 j = 3) W4 wr)
  case atStart =>
    refine ⟨0, rfl, Nat.zero_le _, rfl, ?_, Chg.refl _ _⟩
    rw [dnOf_zero, gvn_none]
    exact HL.out.1
  case round =>
    obtain ⟨i, rfl, hi, rfl, hG, hC⟩ := hrel
    by_cases hlt : i < S.lf.length
    · obtain ⟨s, hs⟩ : ∃ s, S.lf[i]? = some s := ⟨_, List.getElem?_eq_getElem hlt⟩
      have hl3 := own_lab HL.out.2.1.lft HL.out.2.1.ll hC (by omega)
      have hl3' : wr.ownsRow 0 3 1 (.slice Al S.lf.length cl) S.lf.length (nv S.lf) := hl3
      obtain ⟨gl, rfl, hgl⟩ := own_block hl3' (by omega)
      have cs : wr.cell? ⟨gl, i, none⟩ = some (.int .i64 s) := by
        have := hl3'.cells (g := gl) rfl i (.int .i64 s) (by simp [nv, hs])
        rwa [Addr.add_lit, Nat.zero_add] at this
      obtain ⟨hfs1, hfs2⟩ := HL.out.2.2.2.1 s (List.mem_of_getElem? hs)
      have hs4 : s < 4096 := by have := HL.out.2.2.2.2.2; omega
      have hgv := pgive_any b1 s _ A1 ca1 wr hG.pol (by show (gvn S.fe _).length ≤ 65536; rw [gvn_len]; have := HL.out.2.2.2.2.2; omega)
      have htl := gvn_give S.fe (dnOf S.lf i) s hfs1 hfs2 (dnOf_new HL.out.2.2.1 hs)
      have hgv2 : Calls Tryz.prog 43 #[.pointer (some ⟨b1, 0, none⟩), .int .i64 (s : Int)] wr fun e w' => e = .returned (.int .i64 0) ∧ PIn w' b1 (gvn S.fe (setB (dnOf S.lf i) s true)) A1 ca1 ∧ Chg (PF b1 A1) wr w' := by
        rw [← show (toL (gvn S.fe (dnOf S.lf i)) (s : Int) true).1 = gvn S.fe (setB (dnOf S.lf i) s true) from by rw [htl]]
        refine hgv.mono fun e w' h => ?_
        rw [show (toL ({ XC4 with free := gvn S.fe (dnOf S.lf i) } : Gp).free (s : Int) true) = (gvn S.fe (setB (dnOf S.lf i) s true), 0) from htl] at h
        rw [htl]
        exact h
      have HR := Lib.hid (And.intro hG (And.intro hgv2 (And.intro hs hC)))
      obtain ⟨z0, z1, z2⟩ := hG.blk.facts
      clear hG hgv hgv2 htl hfs1 hfs2 hs hC hl3 hl3'
      go_wp2_with (go_at_call 43; (refine HR.out.2.1.mono ?_); rintro e w5 ⟨rfl, h4, h5⟩; have H5 := Lib.hid (And.intro h4 h5); clear h4 h5 z0 z1 z2)
      obtain ⟨hG5, ht5⟩ := HR.out.1.pool H5.out.1 H5.out.2
      go_roundg (S.lf.length - (i + 1))
      case measure => omega
      case rel =>
        refine ⟨i + 1, rfl, by omega, by simp, ?_, Chg.trans HR.out.2.2.2 ht5.chg fun j _ e => e⟩
        rw [dnOf_step HR.out.2.2.1]
        exact hG5
    · obtain rfl : i = S.lf.length := by omega
      have HD := Lib.hid (And.intro hG hC)
      obtain ⟨z0, z1, z2⟩ := hG.blk.facts
      clear hG hC
      go_wp2
      go_ret
      obtain ⟨L9, hG9, hr9⟩ := HD.out.1.close
      have hr8 : Rch (fun j => L4 j ≠ 0) (fun j => L4 j ≠ 0) W4 wr := ⟨HD.out.2.mono fun j _ e => by omega, fun j hj => .inl hj⟩
      rw [dnOf_all] at hG9

      refine ⟨rfl, S, H1.out.2.1, fun j => L9 j ≠ 0, ?_, (HL.out.2.2.2.2.1.trans (hr8.trans hr9)).chg, (HL.out.2.2.2.2.1.trans (hr8.trans hr9)).new⟩
      rw [← HXC.out] at hG9
      exact hG9.gs

end Go.Proofs.YtjlkpeplldckoaaGreatDoor

/- The pager, as its pages are: Commit. -/
namespace Go.Proofs.YtjlkpeplldckoaaGreatDoor
open Go.RowKit Go.Maps

set_option maxRecDepth 100000 in
set_option maxHeartbeats 3200000 in
theorem gcommit_same (p : Nat) (F : Nat → Prop) (X : Gp) (o : Cg) (w : World) (h : GS w p F X) (hok : X.Ok) (hx : X.op = some o) (hno : ∀ k, o.touched k = false) :
    Calls Tryz.prog 17 #[.pointer (some ⟨p, 0, none⟩)] w fun e w' => e = .returned (.int .i64 0) ∧ GTo w w' p F (X.done o) := by
  have hrd := gready_any p F X w h
  rw [hok.rdy hx] at hrd
  have hv := hok.inv
  simp only [Gp.old, Gp.fr, Gp.lf, Gp.tc, hx] at hv
  obtain ⟨L, d, b, A, ca, vp, vt, vo, h, hF⟩ := h
  have ho := h.opn
  rw [hx] at ho
  obtain ⟨cc, vw, M1, s1, vl, M2, s2, rfl, hi2⟩ := ho
  obtain ⟨Al, cl, rfl, -⟩ := own_shape hi2.lft
  obtain ⟨c0, f0, s0⟩ := h.blk.facts
  obtain ⟨c1, f1, s1'⟩ := hi2.blk.facts
  have hlen := hi2.tch.len (t := 60) Tryz.underlying60 3
  have hs2 : s2 = 0 := by rw [hi2.n2.1]; exact cntN_false fun k _ => hno k
  rw [hs2] at hlen
  have hlff : ∀ s ∈ o.left, s < X.free.length ∧ X.free.getD s false = false := fun s hs => by
    obtain ⟨-, i, hi, -⟩ := (hv.lf.2 s).1 hs
    have := hv.rO i s hi
    exact ⟨by rw [hv.lens.1]; exact this, (hv.acct s this).2 (.inr (.inr (.inl ⟨i, hi⟩)))⟩
  have hfe : X.free.length ≤ 4096 := by rw [hv.lens.1]; exact hv.sz.2.1
  have hlle : o.left.length ≤ 4096 := by
    have h1 := List.Nodup.length_le_of_subset hv.lf.1 (l₂ := List.range X.D.n) fun s hs => List.mem_range.2 (by have := (hlff s hs).1; rw [hv.lens.1] at this; exact this)
    rw [List.length_range] at h1
    have := hv.sz
    omega
  obtain rfl : F = fun j => L j ≠ 0 := funext fun j => propext (hF j)
  have HL := Lib.hid (And.intro (show GIn w L p { X with free := X.free } d b A ca vp vt (some ⟨cc, 0, none⟩) from h) (And.intro hi2 (And.intro hv.lf.1 (And.intro hlff (And.intro (show Rch (fun j => L j ≠ 0) (fun j => L j ≠ 0) w w from Rch.grew (Chg.refl _ _)) hfe)))))
  have H := Lib.hid hrd
  clear h hi2 hrd hv hlff hok hx hF hs2 hno hfe
  go_enter Tryz.func17, Tryz.ntmps17
  go_wp2_with (go_at_call 32; (refine H.out.mono ?_); rintro e w1 ⟨rfl, rfl⟩)
  clear c0 f0 s0 c1 f1 s1' hlen
  go_loopg [72] o.left.length (fun q v wr => ∃ i : Nat, q = o.left.length - i ∧ i ≤ o.left.length ∧ v = .int .i64 i ∧ GIn wr L p { X with free := gvn X.free (dnOf o.left i) } d b A ca vp vt (some ⟨cc, 0, none⟩) ∧ Chg (fun j => L j = 3) w wr)
  case atStart =>
    refine ⟨0, rfl, Nat.zero_le _, rfl, ?_, Chg.refl _ _⟩
    rw [dnOf_zero, gvn_none]
    exact HL.out.1
  case round =>
    obtain ⟨i, rfl, hi, rfl, hG, hC⟩ := hrel
    by_cases hlt : i < o.left.length
    · obtain ⟨s, hs⟩ : ∃ s, o.left[i]? = some s := ⟨_, List.getElem?_eq_getElem hlt⟩
      have hl3 := own_lab HL.out.2.1.lft HL.out.2.1.ll hC (by omega)
      have hl3' : wr.ownsRow 0 3 1 (.slice Al o.left.length cl) o.left.length (nv o.left) := hl3
      obtain ⟨gl, rfl, hgl⟩ := own_block hl3' (by omega)
      have cs : wr.cell? ⟨gl, i, none⟩ = some (.int .i64 s) := by
        have := hl3'.cells (g := gl) rfl i (.int .i64 s) (by simp [nv, hs])
        rwa [Addr.add_lit, Nat.zero_add] at this
      obtain ⟨hfs1, hfs2⟩ := HL.out.2.2.2.1 s (List.mem_of_getElem? hs)
      have hs4 : s < 4096 := by have := HL.out.2.2.2.2.2; omega
      have hgv := pgive_any b s _ A ca wr hG.pol (by show (gvn X.free _).length ≤ 65536; rw [gvn_len]; have := HL.out.2.2.2.2.2; omega)
      have htl := gvn_give X.free (dnOf o.left i) s hfs1 hfs2 (dnOf_new HL.out.2.2.1 hs)
      have hgv2 : Calls Tryz.prog 43 #[.pointer (some ⟨b, 0, none⟩), .int .i64 (s : Int)] wr fun e w' => e = .returned (.int .i64 0) ∧ PIn w' b (gvn X.free (setB (dnOf o.left i) s true)) A ca ∧ Chg (PF b A) wr w' := by
        rw [← show (toL (gvn X.free (dnOf o.left i)) (s : Int) true).1 = gvn X.free (setB (dnOf o.left i) s true) from by rw [htl]]
        refine hgv.mono fun e w' h => ?_
        rw [show (toL ({ X with free := gvn X.free (dnOf o.left i) } : Gp).free (s : Int) true) = (gvn X.free (setB (dnOf o.left i) s true), 0) from htl] at h
        rw [htl]
        exact h
      have HR := Lib.hid (And.intro hG (And.intro hgv2 (And.intro hs hC)))
      obtain ⟨z0, z1, z2⟩ := hG.blk.facts
      clear hG hgv hgv2 htl hfs1 hfs2 hs hC hl3 hl3'
      go_wp2_with (go_at_call 43; (refine HR.out.2.1.mono ?_); rintro e w5 ⟨rfl, h4, h5⟩; have H5 := Lib.hid (And.intro h4 h5); clear h4 h5 z0 z1 z2)
      obtain ⟨hG5, ht5⟩ := HR.out.1.pool H5.out.1 H5.out.2
      go_roundg (o.left.length - (i + 1))
      case measure => omega
      case rel =>
        refine ⟨i + 1, rfl, by omega, by simp, ?_, Chg.trans HR.out.2.2.2 ht5.chg fun j _ e => e⟩
        rw [dnOf_step HR.out.2.2.1]
        exact hG5
    · obtain rfl : i = o.left.length := by omega
      have HD := Lib.hid (And.intro hG hC)
      obtain ⟨z0, z1, z2⟩ := hG.blk.facts
      clear hG hC
      go_wp2
      go_ret
      obtain ⟨L9, hG9, hr9⟩ := HD.out.1.close
      have hr8 : Rch (fun j => L j ≠ 0) (fun j => L j ≠ 0) w wr := ⟨HD.out.2.mono fun j _ e => by omega, fun j hj => .inl hj⟩
      rw [dnOf_all] at hG9

      refine ⟨rfl, fun j => L9 j ≠ 0, ?_, (HL.out.2.2.2.2.1.trans (hr8.trans hr9)).chg, (HL.out.2.2.2.2.1.trans (hr8.trans hr9)).new⟩
      exact hG9.gs

end Go.Proofs.YtjlkpeplldckoaaGreatDoor
