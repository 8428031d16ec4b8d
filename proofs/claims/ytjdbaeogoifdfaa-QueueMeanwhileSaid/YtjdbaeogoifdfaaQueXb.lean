/- The document's answer for the queue: Put, Find, Without (printed by genQueXb.py). -/
import Derived.Test.YtjdbaeogoifdfaaQueXa
namespace Go.Proofs.Ytjdbaeogoifdfaa
open Go.RowKit Go.Maps

/-- The first place at which something is so; -1: nowhere. -/
def fidx {α : Type} (p : α → Bool) (l : List α) : Int := match l.findIdx? p with | some i => i | none => -1
theorem fidx_hit {α : Type} {p : α → Bool} {l : List α} {k : Nat} {x : α} (hno : ∀ j y, j < k → l[j]? = some y → p y = false) (hx : l[k]? = some x) (hp : p x = true) : fidx p l = k := by
  have : l.findIdx? p = some k := by
    obtain ⟨hk, he⟩ := List.getElem?_eq_some_iff.1 hx
    rw [List.findIdx?_eq_some_iff_getElem]
    exact ⟨hk, by rw [he]; exact hp, fun j hj => by have := hno j _ hj (List.getElem?_eq_getElem (by omega)); simp [this]⟩
  simp [fidx, this]
theorem fidx_none {α : Type} {p : α → Bool} {l : List α} (hno : ∀ j y, j < l.length → l[j]? = some y → p y = false) : fidx p l = -1 := by
  have : l.findIdx? p = none := by
    rw [List.findIdx?_eq_none_iff]
    intro x hx
    obtain ⟨j, hj⟩ := List.mem_iff_getElem?.1 hx
    exact hno j x (List.getElem?_eq_some_iff.1 hj).1 hj
  simp [fidx, this]
/-- Where a number is in a list. -/
def fnI (l : List Itm) (n : Int) : Int := fidx (fun x : Itm => x.n == n) l

theorem xitInfo : (Try.prog.info? 47).map (fun i => (i.zero, i.size, i.bytes)) = some (some (.agg #[.int .i64 0, .int .i64 0, .string ⟨#[]⟩]), 3, 32) := by kernel_rfl
theorem Itm.snoc {l : List Itm} (x : Itm) : l.flatMap Itm.vals ++ [.int .i64 x.n, .int .i64 x.due, .string x.v] = (l ++ [x]).flatMap Itm.vals := by simp [Itm.vals]

set_option maxHeartbeats 400000 in
theorem xfind_any (n : Int) (l : List Itm) (A : Option Addr) (c : Nat) (w : World) (hs : Sl w 3 A l.length (l.flatMap Itm.vals)) (hl : l.length ≤ 1000000) :
    Calls Try.prog 22 #[.slice A l.length c, .int .i64 n] w fun e w' => e = .returned (.int .i64 (fnI l n)) ∧ w = w' := by
  have Hs := Lib.hid hs
  clear hs
  go_enter Try.func22, Try.ntmps22
  go_wp2
  go_loop [5] (fun i => ∃ k : Nat, k ≤ l.length ∧ i = .int .i64 k ∧ (∀ j x, j < k → l[j]? = some x → (x.n == n) = false)) (fun i => l.length - (intOf i).toNat)
  case atStart => exact ⟨0, Nat.zero_le _, rfl, fun j x h => absurd h (by omega)⟩
  case round =>
    obtain ⟨k, hk, rfl, hno⟩ := hrel
    have Hn := Lib.hid hno
    clear hno
    by_cases hlt : k < l.length
    · obtain ⟨x, hx⟩ : ∃ x, l[k]? = some x := ⟨_, List.getElem?_eq_getElem hlt⟩
      obtain ⟨b, off, rfl, hb, d0, d1, d2⟩ := Hs.out.atItm hx
      have Hx := Lib.hid hx
      clear hx
      rcases hq : (x.n == n) with _ | _
      · go_wp2
        refine ⟨⟨k + 1, by omega, by simp, fun j y hj hy => ?_⟩, by simp [intOf]; omega⟩
        by_cases hjk : j = k
        · subst hjk
          have := Hx.out.symm.trans hy
          simp only [Option.some.injEq] at this
          rw [← this]; exact hq
        · exact Hn.out j y (by omega) hy
      · have Hq := Lib.hid hq
        go_wp2
        go_ret
        exact ⟨by unfold fnI; rw [fidx_hit (p := fun r : Itm => r.n == n) Hn.out Hx.out Hq.out]; rfl, rfl⟩
    · obtain rfl : k = l.length := by omega
      go_wp2
      go_ret
      exact ⟨by unfold fnI; rw [fidx_none (p := fun r : Itm => r.n == n) Hn.out]; rfl, rfl⟩

/-- All but one, of the first ones. -/
def wth (l : List Itm) (at_ k : Nat) : List Itm := if at_ < k then (l.take k).eraseIdx at_ else l.take k
theorem wth_succ {l : List Itm} {at_ k : Nat} {x : Itm} (hx : l[k]? = some x) : wth l at_ (k + 1) = wth l at_ k ++ if k = at_ then [] else [x] := by
  have hk := (List.getElem?_eq_some_iff.1 hx).1
  have e : l.take (k + 1) = l.take k ++ [x] := by rw [List.take_add_one, hx]; rfl
  have hlen : (l.take k).length = k := by rw [List.length_take]; omega
  unfold wth
  rw [e]
  by_cases h1 : at_ < k
  · rw [if_pos (by omega), if_pos h1, if_neg (by omega), List.eraseIdx_append_of_lt_length (by omega)]
  · by_cases h2 : k = at_
    · subst h2
      rw [if_pos (by omega), if_neg h1, if_pos rfl, List.eraseIdx_append_of_length_le (by omega), hlen, Nat.sub_self]
      rfl
    · rw [if_neg (by omega), if_neg h1, if_neg h2]
theorem wth_end {l : List Itm} {at_ : Nat} (h : at_ < l.length) : wth l at_ l.length = l.eraseIdx at_ := by
  unfold wth; rw [if_pos h, List.take_length]
theorem wth_len (l : List Itm) (at_ k : Nat) : (wth l at_ k).length ≤ k := by
  unfold wth
  split
  · have := List.length_eraseIdx_le (l.take k) at_
    have := List.length_take_le k l
    omega
  · exact List.length_take_le k l

set_option maxRecDepth 100000 in
set_option maxHeartbeats 800000 in
theorem xwithout_any (at_ : Nat) (l : List Itm) (A : Option Addr) (c : Nat) (w : World) (hs : Sl w 3 A l.length (l.flatMap Itm.vals)) (hl : l.length ≤ 1000000) (hat : at_ < l.length) :
    Calls Try.prog 17 #[.slice A l.length c, .int .i64 at_] w fun e w' => OwnOut w w' 47 3 (l.eraseIdx at_).length ((l.eraseIdx at_).flatMap Itm.vals) (fun A c => .slice A (l.eraseIdx at_).length c) e := by
  obtain ⟨i0, hi0, hz0, hz1, hz2⟩ := info_parts xitInfo
  have Hs := Lib.hid hs
  clear hs
  go_enter Try.func17, Try.ntmps17
  go_wp2
  go_loopw [5, 6] (fun v i wr => ∃ (k : Nat) (xs : List Itm) (A1 : Option Addr) (c1 : Nat), k ≤ l.length ∧ i = .int .i64 k ∧ v = .slice A1 xs.length c1 ∧ xs = wth l at_ k ∧ wr.ownsRow w.heap.size 47 3 (.slice A1 xs.length c1) xs.length (xs.flatMap Itm.vals) ∧ Grew w wr) (fun _ i _ => l.length - (intOf i).toNat)
  case atStart => exact ⟨0, [], none, 0, Nat.zero_le _, rfl, rfl, by simp [wth], World.ownsRow_nil _ _ _ _, Chg.refl _ _⟩
  case round =>
    obtain ⟨k, xs, A1, c1, hk, rfl, rfl, hxs, hown, hg⟩ := hrel
    have Hxs := Lib.hid hxs
    have hxl : xs.length ≤ k := hxs ▸ wth_len l at_ k
    have Howr := Lib.hid hown
    have hsz := hg.size
    have Hgwr := Lib.hid hg
    clear hxs hown hg
    by_cases hlt : k < l.length
    · obtain ⟨y, hy⟩ : ∃ y, l[k]? = some y := ⟨_, List.getElem?_eq_getElem hlt⟩
      obtain ⟨b, off, rfl, hb, d0, d1, d2⟩ := (Hs.out.grew Hgwr.out).atItm hy
      have Hst := Lib.hid (wth_succ (at_ := at_) hy)
      clear hy
      by_cases hq : k = at_
      · have q1 : ((k : Int) != (at_ : Int)) = false := by simp [hq]
        have Hq := Lib.hid hq
        clear hq
        go_wp2
        go_roundw
        case rel => exact ⟨k + 1, xs, A1, c1, by omega, by go_num, rfl, by rw [Hst.out, if_pos Hq.out, Hxs.out]; simp, Howr.out, Hgwr.out⟩
        case measure => simp [intOf]; omega
      · have q1 : ((k : Int) != (at_ : Int)) = true := by simpa using fun e => hq (Int.ofNat.inj e)
        have Hq := Lib.hid hq
        clear hq
        go_wp2_with (at_builtin; refine wpList_append_lies _ rfl _ _ _ rfl w.heap.size 47 i0 _ 3 32 Try.underlying35 hi0 hz0 hz1 hz2 rfl (by omega) (.slice A1 (xs).length c1) (xs).length ((xs).flatMap Itm.vals) rfl (Howr.out.alloc _) ⟨wr.heap.size, 0, none⟩ 1 1 [.int .i64 y.n, .int .i64 y.due, .string y.v] rfl rfl (World.news_of_block (cs := #[.int .i64 y.n, .int .i64 y.due, .string y.v]) (t := 47) (fr := (0, 0)) (heap_alloc_new wr _)) (by simp [Value.oneCell']) (by omega) (by (try simp only [List.length_append, List.length_cons, List.length_nil]); simp only [maxLen]; omega) (by (try simp only [List.length_append, List.length_cons, List.length_nil]); omega) (by simp; omega) (wr.heap.size + 1) (by simp) ?_; intro gbW2 capW2 W2 hown1 hgrow hat hlt1; have HO1 := Lib.hid hown1; have HG1 := Lib.hid (And.intro hgrow hat); clear hown1 hgrow hat)
        have HgW2 := Lib.hid (show Grew w W2 from (Hgwr.out.alloc _).grown HG1.out.1 (fun j hj hlt => by have := (Howr.out.lt j hj).1; omega))
        have HoW2 := Lib.hid (show W2.ownsRow w.heap.size 47 3 (.slice (some ⟨gbW2, 0, none⟩) (xs ++ [y]).length capW2) (xs ++ [y]).length ((xs ++ [y]).flatMap Itm.vals) from (by have := HO1.out; rw [Itm.snoc] at this; simpa using this))
        clear HO1 HG1
        exact ⟨⟨k + 1, xs ++ [y], some ⟨gbW2, 0, none⟩, capW2, by omega, by simp, by simp, by rw [Hst.out, if_neg Hq.out, Hxs.out], HoW2.out, HgW2.out⟩, by simp [intOf]; omega⟩
    · obtain rfl : k = l.length := by omega
      have hxe : xs = l.eraseIdx at_ := by rw [Hxs.out, wth_end hat]
      clear Hxs
      subst hxe
      go_wp2
      go_ret
      exact OwnOut.mk A1 c1 rfl (own_base Howr.out (by omega)) Hgwr.out

theorem putS_all {t : List Itm} {r : Itm} (h : ∀ z ∈ t, ¬ r.lt z) : putS t r = t ++ [r] := by
  induction t with
  | nil => rfl
  | cons y t ih =>
    unfold putS
    rw [if_neg (h y (by simp)), ih fun z hz => h z (by simp [hz])]
    rfl
theorem putS_new {t : List Itm} {r y : Itm} (h : ∀ z ∈ t, ¬ r.lt z) (hy : r.lt y) : putS (t ++ [y]) r = t ++ [r] ++ [y] := by
  induction t with
  | nil => simp [putS, hy]
  | cons a t ih =>
    rw [List.cons_append]
    unfold putS
    rw [if_neg (h a (by simp)), ih fun z hz => h z (by simp [hz])]
    rfl
theorem putS_done {t : List Itm} {r y : Itm} (h : ∃ z ∈ t, r.lt z) : putS (t ++ [y]) r = putS t r ++ [y] := by
  induction t with
  | nil => obtain ⟨z, hz, -⟩ := h; cases hz
  | cons a t ih =>
    rw [List.cons_append]
    unfold putS
    by_cases ha : r.lt a
    · rw [if_pos ha, if_pos ha]; rfl
    · rw [if_neg ha, if_neg ha, ih]
      · rfl
      · obtain ⟨z, hz, hzr⟩ := h
        rcases List.mem_cons.1 hz with rfl | hz
        · exact absurd hzr ha
        · exact ⟨z, hz, hzr⟩
/-- What Put has made of the first ones. -/
def PutIs (r : Itm) (t xs : List Itm) (done : Bool) : Prop := (done = false ∧ xs = t ∧ ∀ z ∈ t, ¬ r.lt z) ∨ (done = true ∧ xs = putS t r ∧ ∃ z ∈ t, r.lt z)
theorem PutIs.len {r : Itm} {t xs : List Itm} {done : Bool} (h : PutIs r t xs done) : xs.length ≤ t.length + 1 := by
  rcases h with ⟨-, rfl, -⟩ | ⟨-, rfl, -⟩
  · omega
  · rw [putS_len]; exact Nat.le_refl _
theorem PutIs.keep {r y : Itm} {t xs : List Itm} (h : PutIs r t xs false) (hy : ¬ r.lt y) : PutIs r (t ++ [y]) (xs ++ [y]) false := by
  rcases h with ⟨-, rfl, h⟩ | ⟨h, -⟩
  · refine .inl ⟨rfl, rfl, fun z hz => ?_⟩
    rcases List.mem_append.1 hz with hz | hz
    · exact h z hz
    · simp at hz; subst hz; exact hy
  · cases h
theorem PutIs.turn {r y : Itm} {t xs : List Itm} (h : PutIs r t xs false) (hy : r.lt y) : PutIs r (t ++ [y]) (xs ++ [r] ++ [y]) true := by
  rcases h with ⟨-, rfl, h⟩ | ⟨h, -⟩
  · exact .inr ⟨rfl, (putS_new h hy).symm, y, by simp, hy⟩
  · cases h
theorem PutIs.on {r y : Itm} {t xs : List Itm} (h : PutIs r t xs true) : PutIs r (t ++ [y]) (xs ++ [y]) true := by
  rcases h with ⟨h, -⟩ | ⟨-, rfl, h⟩
  · cases h
  · obtain ⟨z, hz, hzr⟩ := h
    exact .inr ⟨rfl, (putS_done ⟨z, hz, hzr⟩).symm, z, by simp [hz], hzr⟩
theorem PutIs.fin_no {r : Itm} {t xs : List Itm} (h : PutIs r t xs false) : xs ++ [r] = putS t r := by
  rcases h with ⟨-, rfl, h⟩ | ⟨h, -⟩
  · exact (putS_all h).symm
  · cases h
theorem PutIs.fin_yes {r : Itm} {t xs : List Itm} (h : PutIs r t xs true) : xs = putS t r := by
  rcases h with ⟨h, -⟩ | ⟨-, h, -⟩
  · cases h
  · exact h

set_option maxRecDepth 100000 in
set_option maxHeartbeats 3200000 in
theorem xput_any (r : Itm) (l : List Itm) (A : Option Addr) (c : Nat) (w : World) (hs : Sl w 3 A l.length (l.flatMap Itm.vals)) (hl : l.length ≤ 1000000) :
    Calls Try.prog 23 #[.slice A l.length c, (.agg #[.int .i64 r.n, .int .i64 r.due, .string r.v])] w fun e w' => OwnOut w w' 47 3 (putS l r).length ((putS l r).flatMap Itm.vals) (fun A c => .slice A (putS l r).length c) e := by
  obtain ⟨i0, hi0, hz0, hz1, hz2⟩ := info_parts xitInfo
  have Hs := Lib.hid hs
  clear hs
  have HB0 := Lib.hid (Blk.new w 47 #[.int .i64 r.n, .int .i64 r.due, .string r.v])
  go_enter Try.func23, Try.ntmps23
  go_wp2
  go_loopw [5, 6, 7] (fun v d i wr => ∃ (k : Nat) (xs : List Itm) (A1 : Option Addr) (c1 : Nat) (done : Bool), k ≤ l.length ∧ i = .int .i64 k ∧ d = .bool done ∧ v = .slice A1 xs.length c1 ∧ PutIs r (l.take k) xs done ∧ wr.ownsRow (w.heap.size + 1) 47 3 (.slice A1 xs.length c1) xs.length (xs.flatMap Itm.vals) ∧ Grew w wr ∧ Blk wr w.heap.size 47 #[.int .i64 r.n, .int .i64 r.due, .string r.v]) (fun _ _ i _ => l.length - (intOf i).toNat)
  case atStart => exact ⟨0, [], none, 0, false, Nat.zero_le _, rfl, rfl, rfl, .inl ⟨rfl, rfl, by simp⟩, World.ownsRow_nil _ _ _ _, (Chg.refl _ _).alloc _, HB0.out⟩
  case round =>
    obtain ⟨k, xs, A1, c1, done, hk, rfl, rfl, rfl, hxs, hown, hg, hb⟩ := hrel
    have hxl : xs.length ≤ k + 1 := by
      have := hxs.len
      have := List.length_take_le k l
      omega
    have Hxs := Lib.hid hxs
    have Howr := Lib.hid hown
    have hsz := hg.size
    have Hgwr := Lib.hid hg
    obtain ⟨x0, xf0, xs0⟩ := hb.facts
    have Hbwr := Lib.hid hb
    clear hxs hown hg hb
    by_cases hlt : k < l.length
    · obtain ⟨y, hy⟩ : ∃ y, l[k]? = some y := ⟨_, List.getElem?_eq_getElem hlt⟩
      obtain ⟨b, off, rfl, hb, d0, d1, d2⟩ := (Hs.out.grew Hgwr.out).atItm hy
      have Hst := Lib.hid (show l.take (k + 1) = l.take k ++ [y] by rw [List.take_add_one, hy]; rfl)
      have Hy := Lib.hid hy
      clear hy
      cases done with
      | true =>
        have t0 : (!true) = false := rfl
        go_wp2_with fail
        go_quiet (fail)
        obtain ⟨W1, eW1, gW1⟩ : ∃ V, wr.drewN nq = V ∧ Grew wr V := ⟨_, rfl, (Chg.refl _ _).drewN _⟩
        rw [eW1]
        have HgW1 := Lib.hid (Grew.trans Hgwr.out gW1)
        have HbW1 := Lib.hid (Hbwr.out.grew gW1)
        have HoW1 := Lib.hid (own_chg Howr.out gW1 fun _ _ h => h)
        have sW1 : w.heap.size + 1 ≤ W1.heap.size := Nat.le_trans (by have := Hbwr.out.lt; omega) gW1.size
        clear d0 d1 d2 x0 xf0 xs0 eW1 gW1
        obtain ⟨x0, xf0, xs0⟩ := HbW1.out.facts
        obtain ⟨b', off', hA', hb', d0, d1, d2⟩ := (Hs.out.grew HgW1.out).atItm Hy.out
        cases hA'
        go_wp2_with (at_builtin; refine wpList_append_lies _ rfl _ _ _ rfl (w.heap.size + 1) 47 i0 _ 3 32 Try.underlying35 hi0 hz0 hz1 hz2 rfl (by omega) (.slice A1 (xs).length c1) (xs).length ((xs).flatMap Itm.vals) rfl (HoW1.out.alloc _) ⟨W1.heap.size, 0, none⟩ 1 1 [.int .i64 y.n, .int .i64 y.due, .string y.v] rfl rfl (World.news_of_block (cs := #[.int .i64 y.n, .int .i64 y.due, .string y.v]) (t := 47) (fr := (0, 0)) (heap_alloc_new W1 _)) (by simp [Value.oneCell']) (by omega) (by (try simp only [List.length_append, List.length_cons, List.length_nil]); simp only [maxLen]; omega) (by (try simp only [List.length_append, List.length_cons, List.length_nil]); omega) (by simp; omega) (W1.heap.size + 1) (by simp) ?_; intro gbW2 capW2 W2 hown1 hgrow hat hlt1; have HO1 := Lib.hid hown1; have HG1 := Lib.hid (And.intro hgrow hat); clear hown1 hgrow hat)
        have HgW2 := Lib.hid (show Grew w W2 from (HgW1.out.alloc _).grown HG1.out.1 (fun j hj hlt => by have := (HoW1.out.lt j hj).1; omega))
        have HbW2 := Lib.hid (show Blk W2 w.heap.size 47 #[.int .i64 r.n, .int .i64 r.due, .string r.v] from (HbW1.out.alloc _).grown HG1.out.1 (fun e => by have := (HoW1.out.lt _ e.symm).1; omega))
        have HoW2 := Lib.hid (show W2.ownsRow (w.heap.size + 1) 47 3 (.slice (some ⟨gbW2, 0, none⟩) (xs ++ [y]).length capW2) (xs ++ [y]).length ((xs ++ [y]).flatMap Itm.vals) from (by have := HO1.out; rw [Itm.snoc] at this; simpa using this))
        have sW2 : w.heap.size + 1 ≤ W2.heap.size := (by have := HbW2.out.lt; omega)
        clear HO1 HG1
        exact ⟨⟨k + 1, xs ++ [y], some ⟨gbW2, 0, none⟩, capW2, true, by omega, by simp, rfl, by simp, by rw [Hst.out]; exact Hxs.out.on, HoW2.out, HgW2.out, HbW2.out⟩, by simp [intOf]; omega⟩
      | false =>
        have t0 : (!false) = true := rfl
        by_cases h1 : r.due < y.due
        · have hlr : r.lt y := .inl h1
          have q1 : decide (r.due < y.due) = true := decide_eq_true h1
          go_wp2_with fail
          go_quiet (fail)
          obtain ⟨W1, eW1, gW1⟩ : ∃ V, wr.drewN nq = V ∧ Grew wr V := ⟨_, rfl, (Chg.refl _ _).drewN _⟩
          rw [eW1]
          have HgW1 := Lib.hid (Grew.trans Hgwr.out gW1)
          have HbW1 := Lib.hid (Hbwr.out.grew gW1)
          have HoW1 := Lib.hid (own_chg Howr.out gW1 fun _ _ h => h)
          have sW1 : w.heap.size + 1 ≤ W1.heap.size := Nat.le_trans (by have := Hbwr.out.lt; omega) gW1.size
          clear d0 d1 d2 x0 xf0 xs0 eW1 gW1
          obtain ⟨x0, xf0, xs0⟩ := HbW1.out.facts
          obtain ⟨b', off', hA', hb', d0, d1, d2⟩ := (Hs.out.grew HgW1.out).atItm Hy.out
          cases hA'
          go_wp2_with (first
            | (at_builtin; refine wpList_append_lies _ rfl _ _ _ rfl (w.heap.size + 1) 47 i0 _ 3 32 Try.underlying35 hi0 hz0 hz1 hz2 rfl (by omega) (.slice A1 (xs).length c1) (xs).length ((xs).flatMap Itm.vals) rfl (HoW1.out.alloc _) ⟨W1.heap.size, 0, none⟩ 1 1 [.int .i64 r.n, .int .i64 r.due, .string r.v] rfl rfl (World.news_of_block (cs := #[.int .i64 r.n, .int .i64 r.due, .string r.v]) (t := 47) (fr := (0, 0)) (heap_alloc_new W1 _)) (by simp [Value.oneCell']) (by omega) (by (try simp only [List.length_append, List.length_cons, List.length_nil]); simp only [maxLen]; omega) (by (try simp only [List.length_append, List.length_cons, List.length_nil]); omega) (by simp; omega) (W1.heap.size + 1) (by simp) ?_; intro gbW2 capW2 W2 hown1 hgrow hat hlt1; have HO1 := Lib.hid hown1; have HG1 := Lib.hid (And.intro hgrow hat); clear hown1 hgrow hat; have HgW2 := Lib.hid (show Grew w W2 from (HgW1.out.alloc _).grown HG1.out.1 (fun j hj hlt => by have := (HoW1.out.lt j hj).1; omega)); have HbW2 := Lib.hid (show Blk W2 w.heap.size 47 #[.int .i64 r.n, .int .i64 r.due, .string r.v] from (HbW1.out.alloc _).grown HG1.out.1 (fun e => by have := (HoW1.out.lt _ e.symm).1; omega)); have HoW2 := Lib.hid (show W2.ownsRow (w.heap.size + 1) 47 3 (.slice (some ⟨gbW2, 0, none⟩) (xs ++ [r]).length capW2) (xs ++ [r]).length ((xs ++ [r]).flatMap Itm.vals) from (by have := HO1.out; rw [Itm.snoc] at this; simpa using this)); have sW2 : w.heap.size + 1 ≤ W2.heap.size := (by have := HbW2.out.lt; omega); clear HO1 HG1; clear d0 d1 d2 x0 xf0 xs0; obtain ⟨x0, xf0, xs0⟩ := HbW2.out.facts; obtain ⟨b', off', hA', hb', d0, d1, d2⟩ := (Hs.out.grew HgW2.out).atItm Hy.out; cases hA')
            | (at_builtin; refine wpList_append_lies _ rfl _ _ _ rfl (w.heap.size + 1) 47 i0 _ 3 32 Try.underlying35 hi0 hz0 hz1 hz2 rfl (by omega) (.slice (some ⟨gbW2, 0, none⟩) (xs.length + 1) capW2) (xs.length + 1) ((xs ++ [r]).flatMap Itm.vals) rfl ((show W2.ownsRow (w.heap.size + 1) 47 3 (.slice (some ⟨gbW2, 0, none⟩) (xs.length + 1) capW2) (xs.length + 1) ((xs ++ [r]).flatMap Itm.vals) from (by have := HoW2.out; simpa using this)).alloc _) ⟨W2.heap.size, 0, none⟩ 1 1 [.int .i64 y.n, .int .i64 y.due, .string y.v] rfl rfl (World.news_of_block (cs := #[.int .i64 y.n, .int .i64 y.due, .string y.v]) (t := 47) (fr := (0, 0)) (heap_alloc_new W2 _)) (by simp [Value.oneCell']) (by omega) (by (try simp only [List.length_append, List.length_cons, List.length_nil]); simp only [maxLen]; omega) (by (try simp only [List.length_append, List.length_cons, List.length_nil]); omega) (by simp; omega) (W2.heap.size + 1) (by simp) ?_; intro gbW3 capW3 W3 hown1 hgrow hat hlt1; have HO1 := Lib.hid hown1; have HG1 := Lib.hid (And.intro hgrow hat); clear hown1 hgrow hat; have HgW3 := Lib.hid (show Grew w W3 from (HgW2.out.alloc _).grown HG1.out.1 (fun j hj hlt => by have := (HoW2.out.lt j hj).1; omega)); have HbW3 := Lib.hid (show Blk W3 w.heap.size 47 #[.int .i64 r.n, .int .i64 r.due, .string r.v] from (HbW2.out.alloc _).grown HG1.out.1 (fun e => by have := (HoW2.out.lt _ e.symm).1; omega)); have HoW3 := Lib.hid (show W3.ownsRow (w.heap.size + 1) 47 3 (.slice (some ⟨gbW3, 0, none⟩) (xs ++ [r] ++ [y]).length capW3) (xs ++ [r] ++ [y]).length ((xs ++ [r] ++ [y]).flatMap Itm.vals) from (by have := HO1.out; rw [Itm.snoc] at this; simpa using this)); have sW3 : w.heap.size + 1 ≤ W3.heap.size := (by have := HbW3.out.lt; omega); clear HO1 HG1; skip))
          exact ⟨⟨k + 1, xs ++ [r] ++ [y], some ⟨gbW3, 0, none⟩, capW3, true, by omega, by simp, rfl, by simp, by rw [Hst.out]; exact Hxs.out.turn hlr, HoW3.out, HgW3.out, HbW3.out⟩, by simp [intOf]; omega⟩
        · have q1 : decide (r.due < y.due) = false := decide_eq_false h1
          by_cases h2 : y.due = r.due
          · have q2 : (y.due == r.due) = true := by simpa using h2
            by_cases h3 : r.n < y.n
            · have hlr : r.lt y := .inr ⟨h2.symm, h3⟩
              have q3 : decide (r.n < y.n) = true := decide_eq_true h3
              clear h1 h2
              go_wp2_with fail
              go_quiet (fail)
              obtain ⟨W1, eW1, gW1⟩ : ∃ V, wr.drewN nq = V ∧ Grew wr V := ⟨_, rfl, (Chg.refl _ _).drewN _⟩
              rw [eW1]
              have HgW1 := Lib.hid (Grew.trans Hgwr.out gW1)
              have HbW1 := Lib.hid (Hbwr.out.grew gW1)
              have HoW1 := Lib.hid (own_chg Howr.out gW1 fun _ _ h => h)
              have sW1 : w.heap.size + 1 ≤ W1.heap.size := Nat.le_trans (by have := Hbwr.out.lt; omega) gW1.size
              clear d0 d1 d2 x0 xf0 xs0 eW1 gW1
              obtain ⟨x0, xf0, xs0⟩ := HbW1.out.facts
              obtain ⟨b', off', hA', hb', d0, d1, d2⟩ := (Hs.out.grew HgW1.out).atItm Hy.out
              cases hA'
              go_wp2_with (first
                | (at_builtin; refine wpList_append_lies _ rfl _ _ _ rfl (w.heap.size + 1) 47 i0 _ 3 32 Try.underlying35 hi0 hz0 hz1 hz2 rfl (by omega) (.slice A1 (xs).length c1) (xs).length ((xs).flatMap Itm.vals) rfl (HoW1.out.alloc _) ⟨W1.heap.size, 0, none⟩ 1 1 [.int .i64 r.n, .int .i64 r.due, .string r.v] rfl rfl (World.news_of_block (cs := #[.int .i64 r.n, .int .i64 r.due, .string r.v]) (t := 47) (fr := (0, 0)) (heap_alloc_new W1 _)) (by simp [Value.oneCell']) (by omega) (by (try simp only [List.length_append, List.length_cons, List.length_nil]); simp only [maxLen]; omega) (by (try simp only [List.length_append, List.length_cons, List.length_nil]); omega) (by simp; omega) (W1.heap.size + 1) (by simp) ?_; intro gbW2 capW2 W2 hown1 hgrow hat hlt1; have HO1 := Lib.hid hown1; have HG1 := Lib.hid (And.intro hgrow hat); clear hown1 hgrow hat; have HgW2 := Lib.hid (show Grew w W2 from (HgW1.out.alloc _).grown HG1.out.1 (fun j hj hlt => by have := (HoW1.out.lt j hj).1; omega)); have HbW2 := Lib.hid (show Blk W2 w.heap.size 47 #[.int .i64 r.n, .int .i64 r.due, .string r.v] from (HbW1.out.alloc _).grown HG1.out.1 (fun e => by have := (HoW1.out.lt _ e.symm).1; omega)); have HoW2 := Lib.hid (show W2.ownsRow (w.heap.size + 1) 47 3 (.slice (some ⟨gbW2, 0, none⟩) (xs ++ [r]).length capW2) (xs ++ [r]).length ((xs ++ [r]).flatMap Itm.vals) from (by have := HO1.out; rw [Itm.snoc] at this; simpa using this)); have sW2 : w.heap.size + 1 ≤ W2.heap.size := (by have := HbW2.out.lt; omega); clear HO1 HG1; clear d0 d1 d2 x0 xf0 xs0; obtain ⟨x0, xf0, xs0⟩ := HbW2.out.facts; obtain ⟨b', off', hA', hb', d0, d1, d2⟩ := (Hs.out.grew HgW2.out).atItm Hy.out; cases hA')
                | (at_builtin; refine wpList_append_lies _ rfl _ _ _ rfl (w.heap.size + 1) 47 i0 _ 3 32 Try.underlying35 hi0 hz0 hz1 hz2 rfl (by omega) (.slice (some ⟨gbW2, 0, none⟩) (xs.length + 1) capW2) (xs.length + 1) ((xs ++ [r]).flatMap Itm.vals) rfl ((show W2.ownsRow (w.heap.size + 1) 47 3 (.slice (some ⟨gbW2, 0, none⟩) (xs.length + 1) capW2) (xs.length + 1) ((xs ++ [r]).flatMap Itm.vals) from (by have := HoW2.out; simpa using this)).alloc _) ⟨W2.heap.size, 0, none⟩ 1 1 [.int .i64 y.n, .int .i64 y.due, .string y.v] rfl rfl (World.news_of_block (cs := #[.int .i64 y.n, .int .i64 y.due, .string y.v]) (t := 47) (fr := (0, 0)) (heap_alloc_new W2 _)) (by simp [Value.oneCell']) (by omega) (by (try simp only [List.length_append, List.length_cons, List.length_nil]); simp only [maxLen]; omega) (by (try simp only [List.length_append, List.length_cons, List.length_nil]); omega) (by simp; omega) (W2.heap.size + 1) (by simp) ?_; intro gbW3 capW3 W3 hown1 hgrow hat hlt1; have HO1 := Lib.hid hown1; have HG1 := Lib.hid (And.intro hgrow hat); clear hown1 hgrow hat; have HgW3 := Lib.hid (show Grew w W3 from (HgW2.out.alloc _).grown HG1.out.1 (fun j hj hlt => by have := (HoW2.out.lt j hj).1; omega)); have HbW3 := Lib.hid (show Blk W3 w.heap.size 47 #[.int .i64 r.n, .int .i64 r.due, .string r.v] from (HbW2.out.alloc _).grown HG1.out.1 (fun e => by have := (HoW2.out.lt _ e.symm).1; omega)); have HoW3 := Lib.hid (show W3.ownsRow (w.heap.size + 1) 47 3 (.slice (some ⟨gbW3, 0, none⟩) (xs ++ [r] ++ [y]).length capW3) (xs ++ [r] ++ [y]).length ((xs ++ [r] ++ [y]).flatMap Itm.vals) from (by have := HO1.out; rw [Itm.snoc] at this; simpa using this)); have sW3 : w.heap.size + 1 ≤ W3.heap.size := (by have := HbW3.out.lt; omega); clear HO1 HG1; skip))
              exact ⟨⟨k + 1, xs ++ [r] ++ [y], some ⟨gbW3, 0, none⟩, capW3, true, by omega, by simp, rfl, by simp, by rw [Hst.out]; exact Hxs.out.turn hlr, HoW3.out, HgW3.out, HbW3.out⟩, by simp [intOf]; omega⟩
            · have hlr : ¬ r.lt y := fun h => by unfold Itm.lt at h; omega
              have Hlr := Lib.hid hlr
              have q3 : decide (r.n < y.n) = false := decide_eq_false h3
              clear h1 h2 hlr
              go_wp2_with fail
              go_quiet (fail)
              obtain ⟨W1, eW1, gW1⟩ : ∃ V, wr.drewN nq = V ∧ Grew wr V := ⟨_, rfl, (Chg.refl _ _).drewN _⟩
              rw [eW1]
              have HgW1 := Lib.hid (Grew.trans Hgwr.out gW1)
              have HbW1 := Lib.hid (Hbwr.out.grew gW1)
              have HoW1 := Lib.hid (own_chg Howr.out gW1 fun _ _ h => h)
              have sW1 : w.heap.size + 1 ≤ W1.heap.size := Nat.le_trans (by have := Hbwr.out.lt; omega) gW1.size
              clear d0 d1 d2 x0 xf0 xs0 eW1 gW1
              obtain ⟨x0, xf0, xs0⟩ := HbW1.out.facts
              obtain ⟨b', off', hA', hb', d0, d1, d2⟩ := (Hs.out.grew HgW1.out).atItm Hy.out
              cases hA'
              go_wp2_with (at_builtin; refine wpList_append_lies _ rfl _ _ _ rfl (w.heap.size + 1) 47 i0 _ 3 32 Try.underlying35 hi0 hz0 hz1 hz2 rfl (by omega) (.slice A1 (xs).length c1) (xs).length ((xs).flatMap Itm.vals) rfl (HoW1.out.alloc _) ⟨W1.heap.size, 0, none⟩ 1 1 [.int .i64 y.n, .int .i64 y.due, .string y.v] rfl rfl (World.news_of_block (cs := #[.int .i64 y.n, .int .i64 y.due, .string y.v]) (t := 47) (fr := (0, 0)) (heap_alloc_new W1 _)) (by simp [Value.oneCell']) (by omega) (by (try simp only [List.length_append, List.length_cons, List.length_nil]); simp only [maxLen]; omega) (by (try simp only [List.length_append, List.length_cons, List.length_nil]); omega) (by simp; omega) (W1.heap.size + 1) (by simp) ?_; intro gbW2 capW2 W2 hown1 hgrow hat hlt1; have HO1 := Lib.hid hown1; have HG1 := Lib.hid (And.intro hgrow hat); clear hown1 hgrow hat)
              have HgW2 := Lib.hid (show Grew w W2 from (HgW1.out.alloc _).grown HG1.out.1 (fun j hj hlt => by have := (HoW1.out.lt j hj).1; omega))
              have HbW2 := Lib.hid (show Blk W2 w.heap.size 47 #[.int .i64 r.n, .int .i64 r.due, .string r.v] from (HbW1.out.alloc _).grown HG1.out.1 (fun e => by have := (HoW1.out.lt _ e.symm).1; omega))
              have HoW2 := Lib.hid (show W2.ownsRow (w.heap.size + 1) 47 3 (.slice (some ⟨gbW2, 0, none⟩) (xs ++ [y]).length capW2) (xs ++ [y]).length ((xs ++ [y]).flatMap Itm.vals) from (by have := HO1.out; rw [Itm.snoc] at this; simpa using this))
              have sW2 : w.heap.size + 1 ≤ W2.heap.size := (by have := HbW2.out.lt; omega)
              clear HO1 HG1
              exact ⟨⟨k + 1, xs ++ [y], some ⟨gbW2, 0, none⟩, capW2, false, by omega, by simp, rfl, by simp, by rw [Hst.out]; exact Hxs.out.keep Hlr.out, HoW2.out, HgW2.out, HbW2.out⟩, by simp [intOf]; omega⟩
          · have q2 : (y.due == r.due) = false := by simpa using h2
            have hlr : ¬ r.lt y := fun h => by unfold Itm.lt at h; omega
            have Hlr := Lib.hid hlr
            clear h1 h2 hlr
            go_wp2_with fail
            go_quiet (fail)
            obtain ⟨W1, eW1, gW1⟩ : ∃ V, wr.drewN nq = V ∧ Grew wr V := ⟨_, rfl, (Chg.refl _ _).drewN _⟩
            rw [eW1]
            have HgW1 := Lib.hid (Grew.trans Hgwr.out gW1)
            have HbW1 := Lib.hid (Hbwr.out.grew gW1)
            have HoW1 := Lib.hid (own_chg Howr.out gW1 fun _ _ h => h)
            have sW1 : w.heap.size + 1 ≤ W1.heap.size := Nat.le_trans (by have := Hbwr.out.lt; omega) gW1.size
            clear d0 d1 d2 x0 xf0 xs0 eW1 gW1
            obtain ⟨x0, xf0, xs0⟩ := HbW1.out.facts
            obtain ⟨b', off', hA', hb', d0, d1, d2⟩ := (Hs.out.grew HgW1.out).atItm Hy.out
            cases hA'
            go_wp2_with (at_builtin; refine wpList_append_lies _ rfl _ _ _ rfl (w.heap.size + 1) 47 i0 _ 3 32 Try.underlying35 hi0 hz0 hz1 hz2 rfl (by omega) (.slice A1 (xs).length c1) (xs).length ((xs).flatMap Itm.vals) rfl (HoW1.out.alloc _) ⟨W1.heap.size, 0, none⟩ 1 1 [.int .i64 y.n, .int .i64 y.due, .string y.v] rfl rfl (World.news_of_block (cs := #[.int .i64 y.n, .int .i64 y.due, .string y.v]) (t := 47) (fr := (0, 0)) (heap_alloc_new W1 _)) (by simp [Value.oneCell']) (by omega) (by (try simp only [List.length_append, List.length_cons, List.length_nil]); simp only [maxLen]; omega) (by (try simp only [List.length_append, List.length_cons, List.length_nil]); omega) (by simp; omega) (W1.heap.size + 1) (by simp) ?_; intro gbW2 capW2 W2 hown1 hgrow hat hlt1; have HO1 := Lib.hid hown1; have HG1 := Lib.hid (And.intro hgrow hat); clear hown1 hgrow hat)
            have HgW2 := Lib.hid (show Grew w W2 from (HgW1.out.alloc _).grown HG1.out.1 (fun j hj hlt => by have := (HoW1.out.lt j hj).1; omega))
            have HbW2 := Lib.hid (show Blk W2 w.heap.size 47 #[.int .i64 r.n, .int .i64 r.due, .string r.v] from (HbW1.out.alloc _).grown HG1.out.1 (fun e => by have := (HoW1.out.lt _ e.symm).1; omega))
            have HoW2 := Lib.hid (show W2.ownsRow (w.heap.size + 1) 47 3 (.slice (some ⟨gbW2, 0, none⟩) (xs ++ [y]).length capW2) (xs ++ [y]).length ((xs ++ [y]).flatMap Itm.vals) from (by have := HO1.out; rw [Itm.snoc] at this; simpa using this))
            have sW2 : w.heap.size + 1 ≤ W2.heap.size := (by have := HbW2.out.lt; omega)
            clear HO1 HG1
            exact ⟨⟨k + 1, xs ++ [y], some ⟨gbW2, 0, none⟩, capW2, false, by omega, by simp, rfl, by simp, by rw [Hst.out]; exact Hxs.out.keep Hlr.out, HoW2.out, HgW2.out, HbW2.out⟩, by simp [intOf]; omega⟩
    · obtain rfl : k = l.length := by omega
      have hxs := Hxs.out
      rw [List.take_length] at hxs
      cases done with
      | true =>
        have hxe := Lib.hid hxs.fin_yes
        clear hxs Hxs
        go_wp2_with fail
        go_ret
        rw [← hxe.out]
        exact OwnOut.mk A1 c1 rfl (own_base Howr.out (by omega)) Hgwr.out
      | false =>
        have hxe := Lib.hid hxs.fin_no
        clear hxs Hxs
        go_wp2_with (at_builtin; refine wpList_append_lies _ rfl _ _ _ rfl (w.heap.size + 1) 47 i0 _ 3 32 Try.underlying35 hi0 hz0 hz1 hz2 rfl (by omega) (.slice A1 (xs).length c1) (xs).length ((xs).flatMap Itm.vals) rfl (Howr.out.alloc _) ⟨wr.heap.size, 0, none⟩ 1 1 [.int .i64 r.n, .int .i64 r.due, .string r.v] rfl rfl (World.news_of_block (cs := #[.int .i64 r.n, .int .i64 r.due, .string r.v]) (t := 47) (fr := (0, 0)) (heap_alloc_new wr _)) (by simp [Value.oneCell']) (by omega) (by (try simp only [List.length_append, List.length_cons, List.length_nil]); simp only [maxLen]; omega) (by (try simp only [List.length_append, List.length_cons, List.length_nil]); omega) (by simp; omega) (wr.heap.size + 1) (by simp) ?_; intro gbW2 capW2 W2 hown1 hgrow hat hlt1; have HO1 := Lib.hid hown1; have HG1 := Lib.hid (And.intro hgrow hat); clear hown1 hgrow hat)
        have HgW2 := Lib.hid (show Grew w W2 from (Hgwr.out.alloc _).grown HG1.out.1 (fun j hj hlt => by have := (Howr.out.lt j hj).1; omega))
        have HbW2 := Lib.hid (show Blk W2 w.heap.size 47 #[.int .i64 r.n, .int .i64 r.due, .string r.v] from (Hbwr.out.alloc _).grown HG1.out.1 (fun e => by have := (Howr.out.lt _ e.symm).1; omega))
        have HoW2 := Lib.hid (show W2.ownsRow (w.heap.size + 1) 47 3 (.slice (some ⟨gbW2, 0, none⟩) (xs ++ [r]).length capW2) (xs ++ [r]).length ((xs ++ [r]).flatMap Itm.vals) from (by have := HO1.out; rw [Itm.snoc] at this; simpa using this))
        have sW2 : w.heap.size + 1 ≤ W2.heap.size := (by have := HbW2.out.lt; omega)
        clear HO1 HG1
        go_ret
        rw [← hxe.out]
        exact OwnOut.mk (some ⟨gbW2, 0, none⟩) capW2 (by simp) (own_base HoW2.out (by omega)) HgW2.out

end Go.Proofs.Ytjdbaeogoifdfaa
