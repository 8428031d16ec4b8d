/- The document's answer for the rents: Find, Drop, Put. -/
import Derived.Test.YtjpkpckgkhbfpaaRenA
namespace Go.Proofs.Ytjpkpckgkhbfpaa
open Go.RowKit Go.Maps

/-- The first place at which something is so; -1: nowhere. -/
def fidx {α : Type} (p : α → Bool) (l : List α) : Int := match l.findIdx? p with | some i => i | none => -1
theorem fidx_hit {α : Type} {p : α → Bool} {l : List α} {k : Nat} {x : α} (hno : ∀ j y, j < k → l[j]? = some y → p y = false) (hx : l[k]? = some x) (hp : p x = true) : fidx p l = k := by
  have : l.findIdx? p = some k := by
    obtain ⟨hk, he⟩ := List.getElem?_eq_some_iff.1 hx
    rw [List.findIdx?_eq_some_iff_getElem]
    exact ⟨hk, by rw [he]; exact hp, fun j hj => by have := hno j _ hj (List.getElem?_eq_getElem (by omega)); simp [this]⟩
  simp [fidx, this]
theorem fidx_none {α : Type} {p : α → Bool} {l : List α} (hno : ∀ j y, j < l.length → l[j]? = some y → p y = false) : fidx p l = -1 := by
  have : l.findIdx? p = none := by
    rw [List.findIdx?_eq_none_iff]
    intro x hx
    obtain ⟨j, hj⟩ := List.mem_iff_getElem?.1 hx
    exact hno j x (List.getElem?_eq_some_iff.1 hj).1 hj
  simp [fidx, this]
theorem fnd_idx_none {x : List Rw} {h : Int} (e : fnd x h = none) : fidx (fun r : Rw => r.house == h) x = -1 :=
  fidx_none fun j y _ hy => by simpa using fnd_none.1 e y (List.mem_of_getElem? hy)
theorem fnd_idx_some {x : List Rw} {h : Int} {r : Rw} (e : fnd x h = some r) : ∃ k : Nat, fidx (fun r : Rw => r.house == h) x = k ∧ x[k]? = some r := by
  unfold fnd at e
  obtain ⟨k, hk, hp, hno⟩ := List.find?_eq_some_iff_getElem.1 e |>.2
  refine ⟨k, fidx_hit (fun j y hj hy => ?_) (by rw [List.getElem?_eq_getElem hk, hp]) (by have := (List.find?_eq_some_iff_getElem.1 e).1; simpa using this), by rw [List.getElem?_eq_getElem hk, hp]⟩
  obtain ⟨hjl, rfl⟩ := List.getElem?_eq_some_iff.1 hy
  simpa using hno j hj

theorem rwInfo : (Try.prog.info? 42).map (fun i => (i.zero, i.size, i.bytes)) = some (some (.agg #[.int .i64 0, .int .i64 0, .int .i64 0]), 3, 24) := by kernel_rfl

set_option maxHeartbeats 400000 in
theorem xfind_any (h : Int) (l : List Rw) (A : Option Addr) (c : Nat) (w : World) (hs : Sl w 3 A l.length (l.flatMap Rw.vals)) (hl : l.length ≤ 1000000) :
    Calls Try.prog 16 #[.slice A l.length c, .int .i64 h] w fun e w' => e = .returned (.int .i64 (fidx (fun r : Rw => r.house == h) l)) ∧ w = w' := by
  have Hs := Lib.hid hs
  clear hs
  go_enter Try.func16, Try.ntmps16
  go_wp2
  go_loop [5] (fun i => ∃ k : Nat, k ≤ l.length ∧ i = .int .i64 k ∧ (∀ j x, j < k → l[j]? = some x → (x.house == h) = false)) (fun i => l.length - (intOf i).toNat)
  case atStart => exact ⟨0, Nat.zero_le _, rfl, fun j x h => absurd h (by omega)⟩
  case round =>
    obtain ⟨k, hk, rfl, hno⟩ := hrel
    have Hn := Lib.hid hno
    clear hno
    by_cases hlt : k < l.length
    · obtain ⟨x, hx⟩ : ∃ x, l[k]? = some x := ⟨_, List.getElem?_eq_getElem hlt⟩
      obtain ⟨b, off, rfl, hb, d0, d1, d2⟩ := Hs.out.atRw hx
      have Hx := Lib.hid hx
      clear hx
      rcases hq : (x.house == h) with _ | _
      · go_wp2
        refine ⟨⟨k + 1, by omega, by simp, fun j y hj hy => ?_⟩, by simp [intOf]; omega⟩
        by_cases hjk : j = k
        · subst hjk
          have := Hx.out.symm.trans hy
          simp only [Option.some.injEq] at this
          rw [← this]; exact hq
        · exact Hn.out j y (by omega) hy
      · have Hq := Lib.hid hq
        go_wp2
        go_ret
        exact ⟨by rw [fidx_hit (p := fun r : Rw => r.house == h) Hn.out Hx.out Hq.out]; rfl, rfl⟩
    · obtain rfl : k = l.length := by omega
      go_wp2
      go_ret
      exact ⟨by rw [fidx_none (p := fun r : Rw => r.house == h) Hn.out]; rfl, rfl⟩

theorem Rw.snoc {l : List Rw} (x : Rw) : l.flatMap Rw.vals ++ [.int .i64 x.house, .int .i64 x.rate, .int .i64 x.due] = (l ++ [x]).flatMap Rw.vals := by simp [Rw.vals]

theorem dropL_snoc {t : List Rw} {h : Int} {y : Rw} : dropL (t ++ [y]) h = dropL t h ++ if y.house = h then [] else [y] := by
  unfold dropL
  rw [List.filter_append, List.filter_cons]
  by_cases e : y.house = h <;> simp [e]
theorem dropL_len (t : List Rw) (h : Int) : (dropL t h).length ≤ t.length := List.length_filter_le _ _

set_option maxHeartbeats 800000 in
theorem xdrop_any (h : Int) (l : List Rw) (A : Option Addr) (c : Nat) (w : World) (hs : Sl w 3 A l.length (l.flatMap Rw.vals)) (hl : l.length ≤ 1000000) :
    Calls Try.prog 22 #[.slice A l.length c, .int .i64 h] w fun e w' => NewOut w w' 3 (dropL l h).length ((dropL l h).flatMap Rw.vals) (fun A c => .slice A (dropL l h).length c) e := by
  obtain ⟨i0, hi0, hz0, hz1, hz2⟩ := info_parts rwInfo
  have Hs := Lib.hid hs
  clear hs
  go_enter Try.func22, Try.ntmps22
  go_wp2
  go_loopw [5, 6] (fun v i wr => ∃ (k : Nat) (xs : List Rw) (A1 : Option Addr) (c1 : Nat), k ≤ l.length ∧ i = .int .i64 k ∧ v = .slice A1 xs.length c1 ∧ xs = dropL (l.take k) h ∧ wr.ownsRow w.heap.size 42 3 (.slice A1 xs.length c1) xs.length (xs.flatMap Rw.vals) ∧ Grew w wr) (fun _ i _ => l.length - (intOf i).toNat)
  case atStart => exact ⟨0, [], none, 0, Nat.zero_le _, rfl, rfl, by simp [dropL], World.ownsRow_nil _ _ _ _, Chg.refl _ _⟩
  case round =>
    obtain ⟨k, xs, A1, c1, hk, rfl, rfl, hxs, hown, hg⟩ := hrel
    have Hxs := Lib.hid hxs
    have hxl : xs.length ≤ k := by
      have := dropL_len (l.take k) h
      rw [← hxs] at this
      have := List.length_take_le k l
      omega
    have Hown := Lib.hid hown
    have hsz := hg.size
    have Hg := Lib.hid hg
    clear hxs hown hg
    by_cases hlt : k < l.length
    · obtain ⟨x, hx⟩ : ∃ x, l[k]? = some x := ⟨_, List.getElem?_eq_getElem hlt⟩
      obtain ⟨b, off, rfl, hb, d0, d1, d2⟩ := (Hs.out.grew Hg.out).atRw hx
      have Hst := Lib.hid (show xs ++ (if x.house = h then [] else [x]) = dropL (l.take (k + 1)) h by
        rw [List.take_add_one, hx]
        rw [show (some x).toList = [x] from rfl, dropL_snoc, Hxs.out])
      clear hx
      by_cases hq : x.house = h
      · have hq' : (x.house != h) = false := by simp [hq]
        have Hq := Lib.hid hq
        clear hq
        go_wp2
        go_roundw
        case rel => exact ⟨k + 1, xs, A1, c1, by omega, by go_num, rfl, by rw [← Hst.out, if_pos Hq.out]; simp, Hown.out, Hg.out⟩
        case measure => simp [intOf]; omega
      · have hq' : (x.house != h) = true := by simpa using hq
        have Hq := Lib.hid hq
        clear hq
        go_wp2_with (at_builtin; refine wpList_append_lies _ rfl _ _ _ rfl w.heap.size 42 i0 _ 3 24 Try.underlying37 hi0 hz0 hz1 hz2 rfl (by omega) (.slice A1 xs.length c1) xs.length (xs.flatMap Rw.vals) rfl (Hown.out.alloc _) ⟨wr.heap.size, 0, none⟩ 1 1 [.int .i64 x.house, .int .i64 x.rate, .int .i64 x.due] rfl rfl (World.news_of_block (cs := #[.int .i64 x.house, .int .i64 x.rate, .int .i64 x.due]) (t := 42) (fr := (0, 0)) (heap_alloc_new wr _)) (by simp [Value.oneCell']) (by omega) (by simp only [maxLen]; omega) (by omega) (by simp; omega) (wr.heap.size + 1) (by simp) ?_; intro g cap w1 hown1 hgrow hat hlt1; have HO1 := Lib.hid hown1; have HG1 := Lib.hid (And.intro hgrow hat); clear hown1 hgrow hat)
        have hg1 : Grew w w1 := (Hg.out.alloc _).grown HG1.out.1 (fun j hj hlt => by have := (Hown.out.lt j hj).1; omega)
        go_roundw
        case rel => exact ⟨k + 1, xs ++ [x], some ⟨g, 0, none⟩, cap, by omega, by go_num, by simp, by rw [← Hst.out, if_neg Hq.out], by have := HO1.out; rw [Rw.snoc] at this; simpa using this, hg1⟩
        case measure => simp [intOf]; omega
    · obtain rfl : k = l.length := by omega
      have hxe : xs = dropL l h := by simpa using Hxs.out
      clear Hxs
      subst hxe
      go_wp2
      go_ret
      exact NewOut.mk A1 c1 rfl (Sl.of_own Hown.out) Hg.out (fun a ha => by subst ha; have := (Hown.out.lt _ rfl).1; omega)

end Go.Proofs.Ytjpkpckgkhbfpaa
