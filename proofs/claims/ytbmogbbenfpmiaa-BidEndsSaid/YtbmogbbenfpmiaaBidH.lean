/- The document's answer for the auctions: what it makes anew. -/
import Derived.Test.YtbmogbbenfpmiaaBidG
import Derived.Test.YtbmogbbenfpmiaaBidPlain
import Derived.Test.YtbmogbbenfpmiaaRow
namespace Go.Proofs.Ytbmogbbenfpmiaa
open Go.RowKit

theorem raucInfo : (Try.prog.info? 53).map (fun i => (i.zero, i.size, i.bytes)) = some (some (.agg #[.int .i64 0, .int .i64 0, .int .i64 0, .int .i64 0, .int .i64 0, .int .i64 0, .int .i64 0]), 7, 56) := by kernel_rfl

theorem Auc.take_snoc {l : List Auc} {k : Nat} {x : Auc} (hx : l[k]? = some x) : (l.take k).flatMap Auc.vals ++ x.vals = (l.take (k + 1)).flatMap Auc.vals := by
  rw [List.take_add_one, hx]; simp
theorem Sl.of_own' {w : World} {base : Nat} {e : TypeId} {s n m c : Nat} {A : Option Addr} {xs : List Value} (h : w.ownsRow base e s (.slice A n c) m xs) (hm : m = n) : Sl w s A n xs := by subst hm; exact Sl.of_own h

set_option maxHeartbeats 800000 in
theorem without_any (k0 : Nat) (nx : Int) (l : List Auc) (A : Option Addr) (c : Nat) (w : World) (hs : Sl w 7 A l.length (l.flatMap Auc.vals)) (hl : l.length ≤ 1000000) (hk0 : k0 < l.length) :
    Calls Try.prog 22 #[.agg #[.slice A l.length c, .int .i64 nx], .int .i64 k0] w fun e w' =>
      NewOut w w' 7 (l.eraseIdx k0).length ((l.eraseIdx k0).flatMap Auc.vals) (fun A c => .agg #[.slice A (l.eraseIdx k0).length c, .int .i64 nx]) e := by
  obtain ⟨i0, hi0, hz0, hz1, hz2⟩ := info_parts raucInfo
  have Hs := Lib.hid hs
  clear hs
  have HB0 := Lib.hid (And.intro ((Blk.new w 39 #[.slice A l.length c, .int .i64 nx]).alloc (.cells #[.slice none 0 0, .int .i64 0] 39)) (Blk.new (w.alloc (.cells #[.slice A l.length c, .int .i64 nx] 39)) 39 #[.slice none 0 0, .int .i64 0]))
  go_enter Try.func22, Try.ntmps22
  go_wp2
  go_loopw [5, 6] (fun v i wr => ∃ (k : Nat) (xs : List Auc) (A1 : Option Addr) (c1 : Nat), k ≤ l.length ∧ i = .int .i64 k ∧ v = .slice A1 xs.length c1 ∧ xs = (l.take k).eraseIdx k0 ∧ wr.ownsRow (w.heap.size + 2) 53 7 (.slice A1 xs.length c1) xs.length (xs.flatMap Auc.vals) ∧ Grew w wr
      ∧ Blk wr w.heap.size 39 #[.slice A l.length c, .int .i64 nx] ∧ Blk wr (w.heap.size + 1) 39 #[.slice none 0 0, .int .i64 0]) (fun _ i _ => l.length - (intOf i).toNat)
  case atStart => exact ⟨0, [], none, 0, Nat.zero_le _, rfl, rfl, by simp, World.ownsRow_nil _ _ _ _, ((Chg.refl _ _).alloc _).alloc _, HB0.out.1, by simpa using HB0.out.2⟩
  case round =>
    obtain ⟨k, xs, A1, c1, hk, rfl, rfl, hxs, hown, hg, hb, hb2⟩ := hrel
    obtain ⟨e0, f0, s0⟩ := hb.facts
    have Hb := Lib.hid hb
    have Hb2 := Lib.hid hb2
    have Hxs := Lib.hid hxs
    have hxl : xs.length ≤ k := by
      have := List.length_eraseIdx_le (l.take k) k0
      rw [← hxs] at this
      have := List.length_take_le k l
      omega
    have Hown := Lib.hid hown
    clear hb hb2 hxs hown
    by_cases hlt : k < l.length
    · obtain ⟨x, hx⟩ : ∃ x, l[k]? = some x := ⟨_, List.getElem?_eq_getElem hlt⟩
      obtain ⟨b, off, rfl, hb, d0, d1, d2, d3, d4, d5, d6⟩ := (Hs.out.grew hg).atAuc hx
      have Hx := Lib.hid hx
      clear hx
      by_cases hkk : k = k0
      · subst hkk
        have Hst := Lib.hid (show xs = (l.take (k + 1)).eraseIdx k by
          have hkl : k = (l.take k).length := by simp; omega
          rw [Hxs.out, List.take_add_one, Hx.out, List.eraseIdx_of_length_le (by simp; omega)]
          rw [show (some x).toList = [x] from rfl, List.eraseIdx_append_of_length_le (by simp; omega)]
          have : k - (l.take k).length = 0 := by simp; omega
          rw [this]; simp)
        go_wp2
        go_roundw
        case rel => exact ⟨k + 1, xs, A1, c1, by omega, by go_num, rfl, Hst.out, Hown.out, hg, Hb.out, Hb2.out⟩
        case measure => simp [intOf]; omega
      · have Hst := Lib.hid (show xs ++ [x] = (l.take (k + 1)).eraseIdx k0 by
          rw [Hxs.out, List.take_add_one, Hx.out]
          rw [show (some x).toList = [x] from rfl]
          by_cases hle : k0 < (l.take k).length
          · rw [List.eraseIdx_append_of_lt_length hle]
          · have hkl : (l.take k).length = k := by simp; omega
            rw [List.eraseIdx_append_of_length_le (by omega), List.eraseIdx_of_length_le (by omega)]
            rw [List.eraseIdx_of_length_le (by simp; omega)])
        have hkk' : ((k : Int) != (k0 : Int)) = true := by rw [bne_iff_ne]; omega
        go_wp2_with (at_builtin; refine wpList_append_lies _ rfl _ _ _ rfl (w.heap.size + 2) 53 i0 _ 7 56 Try.underlying37 hi0 hz0 hz1 hz2 rfl (by omega) (.slice A1 xs.length c1) xs.length (xs.flatMap Auc.vals) rfl (Hown.out.alloc _) ⟨wr.heap.size, 0, none⟩ 1 1 [.int .i64 x.id, .int .i64 x.deed, .int .i64 x.seller, .int .i64 x.least, .int .i64 x.best, .int .i64 x.bidder, .int .i64 x.ends] rfl rfl (World.news_of_block (cs := #[.int .i64 x.id, .int .i64 x.deed, .int .i64 x.seller, .int .i64 x.least, .int .i64 x.best, .int .i64 x.bidder, .int .i64 x.ends]) (t := 53) (fr := (0, 0)) (heap_alloc_new wr _)) (by simp [Value.oneCell']) (by omega) (by simp only [maxLen]; omega) (by omega) (by have := Hb2.out.lt; simp; omega) (wr.heap.size + 1) (by simp) ?_; intro g cap w1 hown1 hgrow hat hlt1; have HO1 := Lib.hid hown1; have HG1 := Lib.hid (And.intro hgrow hat); clear hown1 hgrow hat)
        have hsz := hg.size
        have hg1 : Grew w w1 := (hg.alloc _).grown HG1.out.1 (fun j hj hlt => by have := (Hown.out.lt j hj).1; omega)
        have hne : ∀ j, j < w.heap.size + 2 → some j ≠ (Value.slice A1 xs.length c1).ownBlock := fun j hj e => by have := (Hown.out.lt j e.symm).1; omega
        go_roundw
        case rel => exact ⟨k + 1, xs ++ [x], some ⟨g, 0, none⟩, cap, by omega, by go_num, by simp, Hst.out, by have := HO1.out; simpa [Auc.vals] using this, hg1, (Hb.out.alloc _).grown HG1.out.1 (hne _ (by omega)), (Hb2.out.alloc _).grown HG1.out.1 (hne _ (by omega))⟩
        case measure => simp [intOf]; omega
    · obtain rfl : k = l.length := by omega
      obtain ⟨e1, f1, s1⟩ := Hb2.out.facts
      have hxe : xs = l.eraseIdx k0 := by simpa using Hxs.out
      clear Hxs
      subst hxe
      go_wp2
      refine bodyPost_ret (v := .agg #[.slice A1 (l.eraseIdx k0).length c1, .int .i64 nx]) (by simp [results, Try.results22, go_sem, e1, s1]) rfl (NewOut.mk A1 c1 rfl ?_ ?_ (fun a ha => by subst ha; have := (Hown.out.lt _ rfl).1; omega))
      · refine (Sl.of_own Hown.out).chg (F := fun j => j = w.heap.size + 1) ?_ (fun a ha e => by subst ha; have := (Hown.out.lt _ rfl).1; omega)
        (repeat (first | (with_reducible exact Chg.refl _ _) | (with_reducible refine Chg.alloc ?_ _) | (with_reducible refine Chg.drew ?_) | (with_reducible refine Chg.drewN ?_ _) | ((with_reducible refine Chg.setCell ?_ ?hp _); (case hp => exact fun _ => rfl))))
      · (repeat (first | (with_reducible exact hg) | (with_reducible refine Chg.alloc ?_ _) | (with_reducible refine Chg.drew ?_) | (with_reducible refine Chg.drewN ?_ _) | ((with_reducible refine Chg.setCell ?_ ?hp _); (case hp => (intro h; exfalso; simp at h; try omega)))))

end Go.Proofs.Ytbmogbbenfpmiaa
