/- The queue: All. -/
import Derived.Test.YtjpkpckgkhbfpaaQueXd
import Derived.Shelf.SlSortCmp.NoneTotal
namespace Go.Proofs.Ytjpkpckgkhbfpaa
open Go.RowKit Go.Maps
attribute [local go_sem] Oper.semAt_some

theorem own_new {w : World} {base : Nat} {e : TypeId} {s n c : Nat} {a : Addr} {xs : List Value} (h : w.ownsRow base e s (.slice (some a) n c) n xs) : ∃ g, a = ⟨g, 0, none⟩ ∧ base ≤ g := by
  rcases h.2 with ⟨h', _⟩ | ⟨g, cap, cur, h', hb, _⟩
  · cases h'
  · simp at h'; exact ⟨g, h'.1, hb⟩

theorem sort_nil (w : World) (fv : Value) :
    Calls Try.prog 74 #[.slice none 0 0, fv] w fun e w' => e = .returned (.tuple #[]) ∧ w' = w :=
  AnyF.slices_SortFunc_none sortItm none 0 fv w

theorem collect_any (bs : Nat) (l : List Itm) (A : Option Addr) (c : Nat) (w : World) (hb : Blk w bs 78 #[.slice A l.length c]) (hs : Sl w 3 A l.length (l.flatMap Itm.vals)) (hA : ∀ a, A = some a → a.block < w.heap.size) (hl : l.length ≤ 1000000) :
    Calls Try.prog 73 #[.func (.func 75) #[] #[.pointer (some ⟨bs, 0, none⟩)]] w fun e w' => OwnOut w w' 97 3 l.length (l.flatMap Itm.vals) (fun A c => .slice A l.length c) e := by
  have H := Lib.hid (And.intro hb (And.intro hs hA))
  clear hb hs hA
  go_enter Try.func73, Try.ntmps73
  go_wp2_with (go_at_call 86; refine (appendseq_any bs l A c _ H.out.1 H.out.2.1 H.out.2.2 hl).mono ?_; rintro e w1 ⟨A1, c1, rfl, ho, hg⟩)
  go_ret
  exact OwnOut.mk A1 c1 rfl ho hg

theorem sortedfunc_any (bs : Nat) (l s : List Itm) (A : Option Addr) (c : Nat) (w : World) (hb : Blk w bs 78 #[.slice A l.length c]) (hs : Sl w 3 A l.length (l.flatMap Itm.vals)) (hA : ∀ a, A = some a → a.block < w.heap.size) (hl : l.length ≤ 1000000) (hq : QL l s) (hnd : (l.map Itm.n).Nodup) :
    Calls Try.prog 64 #[.func (.func 75) #[] #[.pointer (some ⟨bs, 0, none⟩)], .func (.func 66) #[] #[]] w fun e w' => OwnOut w w' 97 3 s.length (s.flatMap Itm.vals) (fun A c => .slice A s.length c) e := by
  have H := Lib.hid (And.intro hb (And.intro hs (And.intro hA (And.intro hq hnd))))
  have Hlen := Lib.hid hq.len
  clear hb hs hA hq hnd
  go_enter Try.func64, Try.ntmps64
  go_wp2_with fail
  refine (collect_any bs l A c _ H.out.1 H.out.2.1 H.out.2.2.1 hl).mono ?_
  rintro e w1 ⟨A1, c1, rfl, ho, hg⟩
  have HO := Lib.hid (And.intro ho hg)
  clear ho hg
  go_wp2_with fail
  rcases A1 with _ | a
  · obtain ⟨h0, rfl⟩ := own_none HO.out.1
    have hl0 : l = [] := List.eq_nil_of_length_eq_zero h0
    have hs0 : s = [] := List.eq_nil_of_length_eq_zero (by rw [Hlen.out, h0])
    rw [h0]
    refine (sort_nil w1 _).mono ?_
    rintro e w2 ⟨rfl, rfl⟩
    go_wp2_with fail
    go_ret
    rw [hs0]
    exact OwnOut.mk none 0 rfl (World.ownsRow_nil _ _ _ _) HO.out.2
  · obtain ⟨g, rfl, hge⟩ := own_new HO.out.1
    refine (sort_any HO.out.1 H.out.2.2.2.1 H.out.2.2.2.2 hl).mono ?_
    rintro e w2 ⟨rfl, ho2, hc2⟩
    have HO2 := Lib.hid (And.intro ho2 hc2)
    clear ho2 hc2
    go_wp2_with fail
    go_ret
    rw [Hlen.out]
    exact OwnOut.mk _ c1 rfl HO2.out.1 (Chg.trans HO.out.2 HO2.out.2 fun i hi e => by omega)

theorem qall_any (b : Nat) (w W : World) (hW : w.alloc (.cells #[.pointer (some ⟨b, 0, none⟩)] 60) = W) :
    Calls Try.prog 51 #[.pointer (some ⟨b, 0, none⟩)] w fun e w' => e = .returned (.func (.func 63) #[] #[.pointer (some ⟨w.heap.size, 0, none⟩)]) ∧ W = w' := by
  subst hW
  go_enter Try.func51, Try.ntmps51
  go_wp2
  go_ret
  exact ⟨rfl, rfl⟩

/-- How a round of the one that ranges over All, or Due, ends; F: the blocks that it may turn. -/
def QRound (F : Nat → Prop) (J Jx : World → Prop) (W : World) (e : Ending) (w' : World) : Prop := ((e = .returned (.bool true) ∧ J w') ∨ (e = .returned (.bool false) ∧ Jx w')) ∧ Chg F W w'

set_option maxRecDepth 100000 in
set_option maxHeartbeats 1600000 in
theorem qall_iter (bb b y : Nat) (l s : List Itm) (A : Option Addr) (c M : Nat) (added : Int) (J Jx : Nat → World → Prop) (w : World) (hl : l.length ≤ 1000000)
    (hbb : Blk w bb 60 #[.pointer (some ⟨b, 0, none⟩)]) (hQ : Q w b l A c M added) (hq : QL l s)
    (hst : ∀ i W W', J i W → Chg (fun k => w.heap.size ≤ k) W W' → J i W')
    (hyld : ∀ i x W, J i W → s[i]? = some x → YieldAt Fence.wide 0 Try.prog y #[.int .i64 x.n, .int .i64 x.v] W (QRound (fun k => k < w.heap.size) (J (i + 1)) (Jx (i + 1)) W))
    (h0 : J 0 w) :
    Calls Try.prog 63 #[.func (.yield y) #[] #[], .pointer (some ⟨bb, 0, none⟩)] w fun e w' => (∃ v, e = .returned v) ∧ (J s.length w' ∨ ∃ i, Jx i w') := by
  obtain ⟨c1, f1, s1⟩ := hbb.facts
  obtain ⟨c2, f2, s2⟩ := hQ.isIn.blk.facts
  have Hst := Lib.hid hst
  have Hyld := Lib.hid hyld
  have H := Lib.hid (And.intro hQ (And.intro hq h0))
  have Hlen := Lib.hid hq.len
  clear hbb hQ hst hyld h0 hq
  have hAw : ∀ a, A = some a → a.block < w.heap.size := fun a ha => by
    subst ha
    obtain ⟨g, e, hg⟩ := own_some H.out.1.isIn.own
    subst e
    exact hg
  have HA := Lib.hid hAw
  clear hAw
  have hsl : s.length ≤ 1000000 := by rw [Hlen.out]; exact hl
  (refine (callsIn_wide (n := 1)).1 (callsIn_of_wp Try.func63 rfl trivial ?_ rfl); simp only [Try.ntmps63, List.size_toArray, List.length_cons, List.length_nil, Nat.reduceAdd, Nat.reduceSub, Array.replicate_succ, Array.replicate_zero, List.push_toArray, List.append_toArray, List.nil_append, List.cons_append])
  obtain ⟨W1, hW1⟩ : ∃ W1, w.alloc (.cells #[.slice A l.length c] 78) = W1 := ⟨_, rfl⟩
  gi_wp2_with (refine ⟨trivial, ?_⟩; gi_at_call 65; refine (callsIn_wide.2 (values_any A l.length c _ W1 hW1)).mono ?_; rintro e w5 ⟨rfl, rfl⟩)
  have HG1 := Lib.hid (show Grew w W1 from hW1 ▸ (Chg.refl _ _).alloc _)
  have HB1 := Lib.hid (show Blk W1 w.heap.size 78 #[.slice A l.length c] from hW1 ▸ Blk.new _ _ _)
  clear hW1
  refine ⟨trivial, ?_⟩
  refine (callsIn_wide.2 (sortedfunc_any w.heap.size l s A c W1 HB1.out (Sl.of_own (own_grew H.out.1.isIn.own HG1.out)) (fun a ha => by have := HA.out a ha; have := HG1.out.size; omega) hl H.out.2.1 H.out.1.nd)).mono ?_
  rintro e W2 ⟨A2, c2', rfl, ho2, hg2⟩
  have HO2 := Lib.hid (own_base ho2 HG1.out.size)
  have HG2 := Lib.hid (Grew.trans HG1.out hg2)
  clear c1 f1 s1 c2 f2 s2 ho2 hg2
  gi_wp2
  gi_loopw [14] (fun i wr => ∃ k : Nat, k ≤ s.length ∧ i = .int .i64 k ∧ J k wr ∧ wr.ownsRow w.heap.size 97 3 (.slice A2 s.length c2') s.length (s.flatMap Itm.vals)) (fun i _ => s.length - (intOf i).toNat)
  case atStart => exact ⟨0, Nat.zero_le _, rfl, Hst.out _ _ _ H.out.2.2 (HG2.out.chg), HO2.out⟩
  case round =>
    obtain ⟨k, hk, rfl, hJ, ho⟩ := hrel
    by_cases hlt : k < s.length
    · obtain ⟨x, hx⟩ : ∃ x, s[k]? = some x := ⟨_, List.getElem?_eq_getElem hlt⟩
      obtain ⟨g, off, rfl, hb, d0, d1, d2⟩ := (Sl.of_own ho).atItm hx
      obtain ⟨g', eg, hge⟩ := own_new ho
      have hgo := (own_row (show wr.ownsRow w.heap.size 97 3 (.slice (some ⟨g', 0, none⟩) s.length c2') s.length (s.flatMap Itm.vals) by rw [← eg]; exact ho)).choose_spec.1
      obtain ⟨fn, tmps, assign, body, hy, hR⟩ := Hyld.out k x _ (Hst.out _ _ _ hJ (((Chg.refl NoF wr).alloc (.cells #[.int .i64 x.n, .int .i64 x.due, .int .i64 x.v] 97)).mono fun _ _ f => f.elim)) hx
      have HR := Lib.hid hR
      have HO := Lib.hid (own_grew ho ((Chg.refl NoF wr).alloc (.cells #[.int .i64 x.n, .int .i64 x.due, .int .i64 x.v] 97)))
      have Heg := Lib.hid eg
      clear hJ hx hR ho eg
      gi_wp2_with (refine HR.out.mono ?_; rintro e w2 ⟨⟨rfl, hJ2⟩ | ⟨rfl, hJ2⟩, hc2⟩ <;> have HJ2 := Lib.hid (And.intro hJ2 hc2) <;> clear hJ2 hc2)
      · go_roundw
        case rel => exact ⟨k + 1, by omega, by go_num, HJ2.out.1, own_chg HO.out HJ2.out.2 fun q hq => by have := (HO.out.lt q hq).1; omega⟩
        case measure => simp [intOf]; omega
      · refine bodyPost_ret (results_none rfl _ _ _) rfl ?_
        exact ⟨⟨_, rfl⟩, .inr ⟨_, HJ2.out.1⟩⟩
    · obtain rfl : k = s.length := by omega
      have HJ := Lib.hid hJ
      clear hJ ho
      gi_wp2
      refine bodyPost_end (results_none rfl _ _ _) rfl ?_
      exact ⟨⟨_, rfl⟩, .inl HJ.out⟩

end Go.Proofs.Ytjpkpckgkhbfpaa
