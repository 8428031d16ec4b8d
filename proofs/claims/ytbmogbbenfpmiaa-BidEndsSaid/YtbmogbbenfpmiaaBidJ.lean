/- The document's answer for the auctions: a bid. -/
import Derived.Test.YtbmogbbenfpmiaaBidI
namespace Go.Proofs.Ytbmogbbenfpmiaa
open Go.RowKit

set_option maxHeartbeats 800000 in
theorem rbid_none (nx id who n : Int) (l : List Auc) (A : Option Addr) (c : Nat) (w : World) (hs : Sl w 7 A l.length (l.flatMap Auc.vals)) (hl : l.length ≤ 1000000) (hf : fidx (fun x : Auc => x.id == id) l = -1) :
    Calls Try.prog 29 #[.agg #[.slice A l.length c, .int .i64 nx], .int .i64 id, .int .i64 who, .int .i64 n] w fun e w' =>
      e = .returned (.tuple #[.agg #[.slice A l.length c, .int .i64 nx], .int .i64 14]) ∧ Grew w w' := by
  have hg0 := ((Chg.refl NoF w).alloc (.cells #[.slice A l.length c, .int .i64 nx] 39)).alloc (.cells #[.slice none 0 0, .int .i64 0] 39)
  have HB0 := Lib.hid (And.intro hg0 (And.intro ((Blk.new w 39 #[.slice A l.length c, .int .i64 nx]).alloc (.cells #[.slice none 0 0, .int .i64 0] 39)) (Blk.new (w.alloc (.cells #[.slice A l.length c, .int .i64 nx] 39)) 39 #[.slice none 0 0, .int .i64 0])))
  simp only [World.size_alloc] at HB0
  have Hs := Lib.hid hs
  have Hf := Lib.hid hf
  clear hs hf hg0
  go_enter Try.func29, Try.ntmps29
  go_wp2_with (go_at_call 16; refine (rfind_any id nx l A c _ (Hs.out.grew HB0.out.1) hl).mono ?_; rintro e w1 ⟨rfl, hg1⟩; rw [Hf.out]; obtain ⟨e0, f0, s0⟩ := (HB0.out.2.1.grew hg1).facts; obtain ⟨e1, f1, s1⟩ := (HB0.out.2.2.grew hg1).facts; have HG := Lib.hid (Grew.trans HB0.out.1 hg1); clear hg1)
  refine bodyPost_ret (v := .tuple #[.agg #[.slice A l.length c, .int .i64 nx], .int .i64 14]) (by simp [results, Try.results29, go_sem, e1, s1]) rfl ⟨rfl, ?_⟩
  have hsz := HG.out.size
  (repeat (first | (with_reducible exact HG.out) | (with_reducible refine Chg.alloc ?_ _) | (with_reducible refine Chg.drew ?_) | (with_reducible refine Chg.drewN ?_ _) | ((with_reducible refine Chg.setCell ?_ ?hp _); (case hp => (intro h; exfalso; simp at h; try omega)))))

/-- How the document's answer tells whether a bid stands. -/
theorem ask_cases {x : Auc} {nx who n : Int} (h : x.one nx) :
    (who < 1 ∧ x.ask who n = 10) ∨ (1 ≤ who ∧ who = x.seller ∧ x.ask who n = 38) ∨ (1 ≤ who ∧ who ≠ x.seller ∧ amt n = false ∧ x.ask who n = 11) ∨
    (1 ≤ who ∧ who ≠ x.seller ∧ amt n = true ∧ n < x.least ∧ x.ask who n = 36) ∨
    (1 ≤ who ∧ who ≠ x.seller ∧ amt n = true ∧ x.least ≤ n ∧ 0 < x.bidder ∧ 0 ≤ x.best ∧ x.best ≤ 1099511627776 ∧ n - max (x.best / 20) 1 < x.best ∧ x.ask who n = 36) ∨
    (1 ≤ who ∧ who ≠ x.seller ∧ amt n = true ∧ x.least ≤ n ∧ 0 < x.bidder ∧ 0 ≤ x.best ∧ x.best ≤ 1099511627776 ∧ x.best ≤ n - max (x.best / 20) 1 ∧ x.ask who n = 0) ∨
    (1 ≤ who ∧ who ≠ x.seller ∧ amt n = true ∧ x.least ≤ n ∧ x.bidder = 0 ∧ x.ask who n = 0) := by
  unfold Auc.one at h
  unfold Auc.ask Auc.flo
  by_cases q1 : who < 1
  · exact .inl ⟨q1, by simp [q1]⟩
  right
  by_cases q2 : who = x.seller
  · exact .inl ⟨by omega, q2, by rw [if_neg q1, if_pos q2]⟩
  right
  rcases q3 : amt n with _ | _
  · exact .inl ⟨by omega, q2, rfl, by simp [q1, q2]⟩
  right
  by_cases q4 : n < x.least
  · refine .inl ⟨by omega, q2, rfl, q4, ?_⟩
    rw [if_neg q1, if_neg q2, if_neg (by simp)]
    by_cases q5 : x.bidder = 0
    · rw [if_pos q5, if_pos q4]
    · rw [if_neg q5, if_pos (by omega)]
  right
  by_cases q5 : x.bidder = 0
  · right; right
    exact ⟨by omega, q2, rfl, by omega, q5, by rw [if_neg q1, if_neg q2, if_neg (by simp), if_pos q5, if_neg q4]⟩
  by_cases q6 : n - max (x.best / 20) 1 < x.best
  · exact .inl ⟨by omega, q2, rfl, by omega, by omega, by omega, by omega, q6, by rw [if_neg q1, if_neg q2, if_neg (by simp), if_neg q5, if_pos (by omega)]⟩
  · exact .inr (.inl ⟨by omega, q2, rfl, by omega, by omega, by omega, by omega, by omega, by rw [if_neg q1, if_neg q2, if_neg (by simp), if_neg q5, if_neg (by omega)]⟩)

set_option maxRecDepth 100000 in
set_option maxHeartbeats 1600000 in
theorem rbid_no (k : Nat) (x : Auc) (nx id who n r : Int) (l : List Auc) (A : Option Addr) (c : Nat) (w : World) (hs : Sl w 7 A l.length (l.flatMap Auc.vals)) (hl : l.length ≤ 1000000) (hf : fidx (fun x : Auc => x.id == id) l = k) (hx : l[k]? = some x)
    (ho : x.one nx) (hr : x.ask who n = r) (hr0 : r ≠ 0) (hn : -9223372036854775808 ≤ n) :
    Calls Try.prog 29 #[.agg #[.slice A l.length c, .int .i64 nx], .int .i64 id, .int .i64 who, .int .i64 n] w fun e w' =>
      e = .returned (.tuple #[.agg #[.slice A l.length c, .int .i64 nx], .int .i64 r]) ∧ Grew w w' := by
  have hg0 := ((Chg.refl NoF w).alloc (.cells #[.slice A l.length c, .int .i64 nx] 39)).alloc (.cells #[.slice none 0 0, .int .i64 0] 39)
  have HB0 := Lib.hid (And.intro hg0 (And.intro ((Blk.new w 39 #[.slice A l.length c, .int .i64 nx]).alloc (.cells #[.slice none 0 0, .int .i64 0] 39)) (Blk.new (w.alloc (.cells #[.slice A l.length c, .int .i64 nx] 39)) 39 #[.slice none 0 0, .int .i64 0])))
  simp only [World.size_alloc] at HB0
  have Hs := Lib.hid hs
  have Hf := Lib.hid hf
  have Hx := Lib.hid hx
  have hk : k < l.length := (List.getElem?_eq_some_iff.1 hx).1
  obtain ⟨g, off, rfl, hg, -⟩ := hs.atAuc hx
  have hnn : amt n = true → 0 ≤ n ∧ n ≤ 1099511627776 := fun h => by simp [amt] at h; omega
  rcases ask_cases (who := who) (n := n) ho with ⟨q1, hq⟩ | ⟨q1, q2, hq⟩ | ⟨q1, q2, q3, hq⟩ | ⟨q1, q2, q3, q4, hq⟩ | ⟨q1, q2, q3, q4, q5, q6, q6', q7, hq⟩ | ⟨_, _, _, _, _, _, _, _, hq⟩ | ⟨_, _, _, _, _, hq⟩
  case inr.inr.inr.inr.inr.inl => exact absurd (hr.symm.trans hq) hr0
  case inr.inr.inr.inr.inr.inr => exact absurd (hr.symm.trans hq) hr0
  all_goals
    obtain rfl := hr.symm.trans hq
    try have hn3 := hnn q3
    try have hn4 := hn3.1
    try have hn5 := hn3.2
    try clear hn3
    try have Q3 := Lib.hid q3
    try have q2' : (who == x.seller) = false := by simpa using q2
    try have hm1 : max (x.best / 20) 1 ≤ 1099511627776 := by omega
    clear hs hf hx hg0 hr hr0 hq ho hnn
    try clear q3
    try subst q2
    go_enter Try.func29, Try.ntmps29
    go_wp2_with (first
      | (go_at_call 16; refine (rfind_any id nx l _ c _ (Hs.out.grew HB0.out.1) hl).mono ?_; rintro e w1 ⟨rfl, hg1⟩; rw [Hf.out]; obtain ⟨e0, f0, s0⟩ := (HB0.out.2.1.grew hg1).facts; obtain ⟨e1, f1, s1⟩ := (HB0.out.2.2.grew hg1).facts; have HG := Lib.hid (Grew.trans HB0.out.1 hg1); clear hg1; obtain ⟨g', off', hA', -, d0, d1, d2, d3, d4, d5, d6⟩ := (Hs.out.grew HG.out).atAuc Hx.out; simp only [Option.some.injEq, Addr.mk.injEq, and_true] at hA'; obtain ⟨rfl, rfl⟩ := hA')
      | (go_at_call 35; refine (amount_any _ _).mono ?_; rintro e w1 ⟨rfl, rfl⟩; rw [Q3.out]))
    all_goals
      refine bodyPost_ret (v := .tuple #[.agg #[.slice (some ⟨g, off, none⟩) l.length c, .int .i64 nx], .int .i64 _]) (by simp [results, Try.results29, go_sem, e1, s1]) rfl ⟨rfl, ?_⟩
      have hsz := HG.out.size
      (repeat (first | (with_reducible exact HG.out) | (with_reducible refine Chg.alloc ?_ _) | (with_reducible refine Chg.drew ?_) | (with_reducible refine Chg.drewN ?_ _) | ((with_reducible refine Chg.setCell ?_ ?hp _); (case hp => (intro h; exfalso; simp at h; try omega)))))

set_option maxRecDepth 100000 in
set_option maxHeartbeats 1600000 in
theorem rbid_yes (k : Nat) (x : Auc) (nx id who n : Int) (l : List Auc) (A : Option Addr) (c : Nat) (w : World) (hs : Sl w 7 A l.length (l.flatMap Auc.vals)) (hl : l.length ≤ 1000000) (hf : fidx (fun x : Auc => x.id == id) l = k) (hx : l[k]? = some x)
    (ho : x.one nx) (hr : x.ask who n = 0) :
    Calls Try.prog 29 #[.agg #[.slice A l.length c, .int .i64 nx], .int .i64 id, .int .i64 who, .int .i64 n] w fun e w' =>
      NewOut w w' 7 (l.set k { x with best := n, bidder := who }).length ((l.set k { x with best := n, bidder := who }).flatMap Auc.vals) (fun A c => .tuple #[.agg #[.slice A (l.set k { x with best := n, bidder := who }).length c, .int .i64 nx], .int .i64 0]) e := by
  obtain ⟨i0, hi0, hz0, hz1, hz2⟩ := info_parts raucInfo
  have hg0 := ((Chg.refl NoF w).alloc (.cells #[.slice A l.length c, .int .i64 nx] 39)).alloc (.cells #[.slice none 0 0, .int .i64 0] 39)
  have HB0 := Lib.hid (And.intro hg0 (And.intro ((Blk.new w 39 #[.slice A l.length c, .int .i64 nx]).alloc (.cells #[.slice none 0 0, .int .i64 0] 39)) (Blk.new (w.alloc (.cells #[.slice A l.length c, .int .i64 nx] 39)) 39 #[.slice none 0 0, .int .i64 0])))
  simp only [World.size_alloc] at HB0
  have Hs := Lib.hid hs
  have Hf := Lib.hid hf
  have Hx := Lib.hid hx
  have hk : k < l.length := (List.getElem?_eq_some_iff.1 hx).1
  obtain ⟨g, off, rfl, hg, -⟩ := hs.atAuc hx
  have hnn : amt n = true → 0 ≤ n ∧ n ≤ 1099511627776 := fun h => by simp [amt] at h; omega
  have hcs : (1 ≤ who ∧ who ≠ x.seller ∧ amt n = true ∧ x.least ≤ n) ∧ ((0 < x.bidder ∧ 0 ≤ x.best ∧ x.best ≤ 1099511627776 ∧ x.best / 20 < 1 ∧ x.best ≤ n - 1) ∨ (0 < x.bidder ∧ 0 ≤ x.best ∧ x.best ≤ 1099511627776 ∧ 1 ≤ x.best / 20 ∧ x.best ≤ n - x.best / 20) ∨ x.bidder = 0) := by
    rcases ask_cases (who := who) (n := n) ho with ⟨_, hq⟩ | ⟨_, _, hq⟩ | ⟨_, _, _, hq⟩ | ⟨_, _, _, _, hq⟩ | ⟨_, _, _, _, _, _, _, _, hq⟩ | ⟨q1, q2, q3, q4, q5, q6, q6', q7, hq⟩ | ⟨q1, q2, q3, q4, q5, hq⟩
    all_goals try exact absurd (hr.symm.trans hq) (by decide)
    · refine ⟨⟨q1, q2, q3, q4⟩, ?_⟩
      by_cases h8 : x.best / 20 < 1
      · exact .inl ⟨q5, q6, q6', h8, by omega⟩
      · exact .inr (.inl ⟨q5, q6, q6', by omega, by omega⟩)
    · exact ⟨⟨q1, q2, q3, q4⟩, .inr (.inr q5)⟩
  obtain ⟨⟨q1, q2, q3, q4⟩, hcs⟩ := hcs
  have hn3 := hnn q3
  have hn4 := hn3.1
  have hn5 := hn3.2
  have Q3 := Lib.hid q3
  have q2' : (who == x.seller) = false := by simpa using q2
  have z0 : decide ((k : Int) < 0) = false := by simp
  have z1 : decide (who < 1) = false := by simp; omega
  have z2 : decide (n < x.least) = false := by simp; omega
  clear hs hf hx hg0 hr ho hnn q3 hn3
  rcases hcs with ⟨q5, q6, q6', q8, q7⟩ | ⟨q5, q6, q6', q8, q7⟩ | q5
  all_goals
    try have z3 : decide (0 < x.bidder) = true := by simp; omega
    try have z4 : decide (x.best / 20 < 1) = true := by simp; omega
    try have z4 : decide (x.best / 20 < 1) = false := by simp; omega
    try have z5 : decide (n - 1 < x.best) = false := by simp; omega
    try have z6 : decide (n - x.best / 20 < x.best) = false := by simp; omega
    go_enter Try.func29, Try.ntmps29
    go_wp2_with (first
      | (go_at_call 16; refine (rfind_any id nx l _ c _ (Hs.out.grew HB0.out.1) hl).mono ?_; rintro e w1 ⟨rfl, hg1⟩; rw [Hf.out]; have HBa := Lib.hid (HB0.out.2.1.grew hg1); have HBb := Lib.hid (HB0.out.2.2.grew hg1); have HG := Lib.hid (Grew.trans HB0.out.1 hg1); clear hg1; obtain ⟨e0, f0, s0⟩ := HBa.out.facts; obtain ⟨g', off', hA', -, d0, d1, d2, d3, d4, d5, d6⟩ := (Hs.out.grew HG.out).atAuc Hx.out; simp only [Option.some.injEq, Addr.mk.injEq, and_true] at hA'; obtain ⟨rfl, rfl⟩ := hA')
      | (go_at_call 35; refine (amount_any _ _).mono ?_; rintro e w1 ⟨rfl, rfl⟩; rw [Q3.out]))
  all_goals
    have hlen : (l.set k { x with best := n, bidder := who }).length = l.length := by simp
    have Hlen := Lib.hid hlen
    clear hlen e0 f0 s0 d0 d1 d2 d3 d4 d5 d6 hn4 hn5
    go_loopw [13, 14] (fun v i wr => ∃ (j : Nat) (A1 : Option Addr) (c1 : Nat), j ≤ l.length ∧ i = .int .i64 j ∧ v = .slice A1 j c1 ∧ wr.ownsRow (w.heap.size + 2) 53 7 (.slice A1 j c1) j (((l.set k { x with best := n, bidder := who }).take j).flatMap Auc.vals) ∧ Grew w wr
      ∧ Blk wr w.heap.size 39 #[.slice (some ⟨g, off, none⟩) l.length c, .int .i64 nx] ∧ Blk wr (w.heap.size + 1) 39 #[.slice none 0 0, .int .i64 0]) (fun _ i _ => l.length - (intOf i).toNat)
    case atStart => exact ⟨0, none, 0, Nat.zero_le _, rfl, rfl, by simpa using World.ownsRow_nil _ _ _ _, HG.out.alloc _, HBa.out.alloc _, HBb.out.alloc _⟩
    case round =>
      obtain ⟨j, A1, c1, hj, rfl, rfl, hown, hg1, hb, hb2⟩ := hrel
      obtain ⟨e0, f0, s0⟩ := hb.facts
      have s1 := hb2.lt
      have Hb := Lib.hid hb
      have Hb2 := Lib.hid hb2
      have Hown := Lib.hid hown
      have Hne := Lib.hid (show ∀ j', j' < w.heap.size + 2 → some j' ≠ (Value.slice A1 j c1).ownBlock from fun j' hj' e => by have := (hown.lt j' e.symm).1; omega)
      clear hb hb2 hown
      by_cases hlt : j < l.length
      · obtain ⟨y, hy⟩ : ∃ y, l[j]? = some y := ⟨_, List.getElem?_eq_getElem hlt⟩
        obtain ⟨g', off', hA', -, d0, d1, d2, d3, d4, d5, d6⟩ := (Hs.out.grew hg1).atAuc hy
        simp only [Option.some.injEq, Addr.mk.injEq, and_true] at hA'
        obtain ⟨rfl, rfl⟩ := hA'
        by_cases hjk : j = k
        · subst hjk
          obtain rfl : x = y := by have := Hx.out.symm.trans hy; simpa using this
          have Hst := Lib.hid (show (l.set j { x with best := n, bidder := who })[j]? = some { x with best := n, bidder := who } by simp [hlt])
          clear hy
          go_wp2_with (at_builtin; refine wpList_append_lies _ rfl _ _ _ rfl (w.heap.size + 2) 53 i0 _ 7 56 Try.underlying37 hi0 hz0 hz1 hz2 rfl (by omega) (.slice A1 j c1) j (((l.set j { x with best := n, bidder := who }).take j).flatMap Auc.vals) rfl ((Hown.out.alloc _).alloc _) ⟨wr.heap.size + 1, 0, none⟩ 1 1 [.int .i64 x.id, .int .i64 x.deed, .int .i64 x.seller, .int .i64 x.least, .int .i64 n, .int .i64 who, .int .i64 x.ends] rfl rfl (World.news_of_block (cs := #[.int .i64 x.id, .int .i64 x.deed, .int .i64 x.seller, .int .i64 x.least, .int .i64 n, .int .i64 who, .int .i64 x.ends]) (t := 53) (fr := (0, 0)) (by have := heap_alloc_new (wr.alloc (.cells #[.int .i64 x.id, .int .i64 x.deed, .int .i64 x.seller, .int .i64 x.least, .int .i64 n, .int .i64 who, .int .i64 x.ends] 53)) (.cells #[.int .i64 x.id, .int .i64 x.deed, .int .i64 x.seller, .int .i64 x.least, .int .i64 n, .int .i64 who, .int .i64 x.ends] 53); rwa [World.size_alloc] at this)) (by simp [Value.oneCell']) (by omega) (by simp only [maxLen]; omega) (by omega) (by simp; omega) (wr.heap.size + 2) (by simp) ?_; intro g2 cap w2 hown1 hgrow hat hlt1; have HO1 := Lib.hid hown1; have HG1 := Lib.hid (And.intro hgrow hat); clear hown1 hgrow hat)
          have hsz := hg1.size
          have hg2 : Grew w w2 := ((hg1.alloc _).alloc _).grown HG1.out.1 (fun j hj hlt => by have := (Hown.out.lt j hj).1; omega)
          go_roundw
          case rel => first | exact ⟨j + 1, some ⟨g2, 0, none⟩, cap, by omega, by go_num, rfl, by have := HO1.out; rw [← Auc.take_snoc Hst.out]; simpa [Auc.vals] using this, hg2, ((Hb.out.alloc _).alloc _).grown HG1.out.1 (Hne.out _ (by omega)), ((Hb2.out.alloc _).alloc _).grown HG1.out.1 (Hne.out _ (by omega))⟩ | ((repeat apply Exists.intro); exact ⟨⟨j + 1, some ⟨g2, 0, none⟩, cap, by omega, by go_num, rfl, by have := HO1.out; rw [← Auc.take_snoc Hst.out]; simpa [Auc.vals] using this, hg2, ((Hb.out.alloc _).alloc _).grown HG1.out.1 (Hne.out _ (by omega)), ((Hb2.out.alloc _).alloc _).grown HG1.out.1 (Hne.out _ (by omega))⟩, rfl⟩)
          case measure => simp [intOf]; omega
        · have Hst := Lib.hid (show (l.set k { x with best := n, bidder := who })[j]? = some y by rw [List.getElem?_set_ne (by omega)]; exact hy)
          have hjk' : ((j : Int) == (k : Int)) = false := by rw [beq_eq_false_iff_ne]; omega
          clear hy
          go_wp2_with (at_builtin; refine wpList_append_lies _ rfl _ _ _ rfl (w.heap.size + 2) 53 i0 _ 7 56 Try.underlying37 hi0 hz0 hz1 hz2 rfl (by omega) (.slice A1 j c1) j (((l.set k { x with best := n, bidder := who }).take j).flatMap Auc.vals) rfl ((Hown.out.alloc _).alloc _) ⟨wr.heap.size + 1, 0, none⟩ 1 1 [.int .i64 y.id, .int .i64 y.deed, .int .i64 y.seller, .int .i64 y.least, .int .i64 y.best, .int .i64 y.bidder, .int .i64 y.ends] rfl rfl (World.news_of_block (cs := #[.int .i64 y.id, .int .i64 y.deed, .int .i64 y.seller, .int .i64 y.least, .int .i64 y.best, .int .i64 y.bidder, .int .i64 y.ends]) (t := 53) (fr := (0, 0)) (by have := heap_alloc_new (wr.alloc (.cells #[.int .i64 y.id, .int .i64 y.deed, .int .i64 y.seller, .int .i64 y.least, .int .i64 y.best, .int .i64 y.bidder, .int .i64 y.ends] 53)) (.cells #[.int .i64 y.id, .int .i64 y.deed, .int .i64 y.seller, .int .i64 y.least, .int .i64 y.best, .int .i64 y.bidder, .int .i64 y.ends] 53); rwa [World.size_alloc] at this)) (by simp [Value.oneCell']) (by omega) (by simp only [maxLen]; omega) (by omega) (by simp; omega) (wr.heap.size + 2) (by simp) ?_; intro g2 cap w2 hown1 hgrow hat hlt1; have HO1 := Lib.hid hown1; have HG1 := Lib.hid (And.intro hgrow hat); clear hown1 hgrow hat)
          have hsz := hg1.size
          have hg2 : Grew w w2 := ((hg1.alloc _).alloc _).grown HG1.out.1 (fun j hj hlt => by have := (Hown.out.lt j hj).1; omega)
          go_roundw
          case rel => first | exact ⟨j + 1, some ⟨g2, 0, none⟩, cap, by omega, by go_num, rfl, by have := HO1.out; rw [← Auc.take_snoc Hst.out]; simpa [Auc.vals] using this, hg2, ((Hb.out.alloc _).alloc _).grown HG1.out.1 (Hne.out _ (by omega)), ((Hb2.out.alloc _).alloc _).grown HG1.out.1 (Hne.out _ (by omega))⟩ | ((repeat apply Exists.intro); exact ⟨⟨j + 1, some ⟨g2, 0, none⟩, cap, by omega, by go_num, rfl, by have := HO1.out; rw [← Auc.take_snoc Hst.out]; simpa [Auc.vals] using this, hg2, ((Hb.out.alloc _).alloc _).grown HG1.out.1 (Hne.out _ (by omega)), ((Hb2.out.alloc _).alloc _).grown HG1.out.1 (Hne.out _ (by omega))⟩, rfl⟩)
          case measure => simp [intOf]; omega
      · obtain rfl : j = l.length := by omega
        obtain ⟨e1, f1, s2⟩ := Hb2.out.facts
        go_wp2
        refine bodyPost_ret (v := .tuple #[.agg #[.slice A1 (l.set k { x with best := n, bidder := who }).length c1, .int .i64 nx], .int .i64 0]) (by simp [results, Try.results29, go_sem, e1, s1]) rfl (NewOut.mk A1 c1 rfl ?_ ?_ (fun a ha => by subst ha; have := (Hown.out.lt _ rfl).1; omega))
        · have hO : Sl wr 7 A1 (l.set k { x with best := n, bidder := who }).length ((l.set k { x with best := n, bidder := who }).flatMap Auc.vals) := by
            have := Sl.of_own Hown.out
            rw [List.take_of_length_le (by simp)] at this
            rw [Hlen.out]; exact this
          refine hO.chg (F := fun j => j = w.heap.size + 1) ?_ (fun a ha e => by subst ha; have := (Hown.out.lt _ rfl).1; omega)
          (repeat (first | (with_reducible exact Chg.refl _ _) | (with_reducible refine Chg.alloc ?_ _) | (with_reducible refine Chg.drew ?_) | (with_reducible refine Chg.drewN ?_ _) | ((with_reducible refine Chg.setCell ?_ ?hp _); (case hp => exact fun _ => rfl))))
        · (repeat (first | (with_reducible exact hg1) | (with_reducible refine Chg.alloc ?_ _) | (with_reducible refine Chg.drew ?_) | (with_reducible refine Chg.drewN ?_ _) | ((with_reducible refine Chg.setCell ?_ ?hp _); (case hp => (intro h; exfalso; simp at h; try omega)))))

end Go.Proofs.Ytbmogbbenfpmiaa
