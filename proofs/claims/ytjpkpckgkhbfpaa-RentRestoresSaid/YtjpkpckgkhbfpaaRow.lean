/- Rows of an owned slice: append within the row, clear within it, cut it short. No program stands in this text. -/
import Derived.Test.YtjpkpckgkhbfpaaBase
namespace Go.Proofs.Ytjpkpckgkhbfpaa
open Go.RowKit

/-- A call that hands back a slice of memory that it made itself, for reading. -/
def NewOut (w w' : World) (s n : Nat) (xs : List Value) (mk : Option Addr → Nat → Value) (e : Ending) : Prop := ∃ A c, e = .returned (mk A c) ∧ Sl w' s A n xs ∧ Grew w w' ∧ ∀ a, A = some a → w.heap.size ≤ a.block
theorem NewOut.mk {w w' : World} {s n : Nat} {xs : List Value} {f : Option Addr → Nat → Value} {e : Ending} (A : Option Addr) (c : Nat) (he : e = .returned (f A c)) (hs : Sl w' s A n xs) (hg : Grew w w') (hn : ∀ a, A = some a → w.heap.size ≤ a.block) : NewOut w w' s n xs f e := ⟨A, c, he, hs, hg, hn⟩

theorem own_row {w : World} {base : Nat} {e : TypeId} {s n cap g : Nat} {xs : List Value} (h : w.ownsRow base e s (.slice (some ⟨g, 0, none⟩) n cap) n xs) :
    ∃ cur, base ≤ g ∧ w.heap[g]? = some (.cells cur e (0, 0)) ∧ n ≤ cap ∧ cap ≤ maxLen ∧ cur.size = cap * s ∧ cur.toList.take (n * s) = xs ∧ xs.length = n * s := by
  rcases h.2 with ⟨h', _⟩ | ⟨g', cap', cur, h', hb, hg, hnc, hcm, hcs, htake⟩
  · cases h'
  · simp only [Value.slice.injEq, Option.some.injEq, Addr.mk.injEq, and_true, true_and] at h'
    obtain ⟨rfl, rfl⟩ := h'
    exact ⟨cur, hb, hg, hnc, hcm, hcs, htake, h.1⟩

/-- What the row holds when some cells of it are laid over. -/
theorem own_over {w : World} {base : Nat} {e : TypeId} {s n cap g p : Nat} {xs cur news : List Value} (hb : base ≤ g) (hg : w.heap[g]? = some (.cells cur.toArray e (0, 0))) (hnc : n ≤ cap) (hcm : cap ≤ maxLen) (hcs : cur.length = cap * s)
    (htake : cur.take (n * s) = xs) (hl : p + news.length ≤ n * s) :
    (w.setRow g (cur.take p ++ news ++ cur.drop (p + news.length)).toArray).ownsRow base e s (.slice (some ⟨g, 0, none⟩) n cap) n (xs.take p ++ news ++ xs.drop (p + news.length)) ∧
      w.grownBy (w.setRow g (cur.take p ++ news ++ cur.drop (p + news.length)).toArray) (some g) := by
  have hns : n * s ≤ cap * s := Nat.mul_le_mul_right _ hnc
  have hx : xs.length = n * s := by rw [← htake, List.length_take]; omega
  refine ⟨⟨?_, .inr ⟨g, cap, _, rfl, hb, setRow_heap w g _ _ e _ hg, hnc, hcm, ?_, ?_⟩⟩, ⟨rfl, rfl, rfl, by simp, fun k _ hk => setRow_other w g k _ (fun e => hk (by simp [e]))⟩⟩
  · simp only [List.length_append, List.length_take, List.length_drop]; omega
  · simp only [List.size_toArray, List.length_append, List.length_take, List.length_drop]; omega
  · apply List.ext_getElem?
    intro i
    rw [← htake]
    simp only [List.getElem?_take, List.getElem?_append, List.length_append, List.length_take, List.getElem?_drop]
    by_cases h1 : i < p
    · simp [h1, show i < n * s by omega, show i < min p cur.length by omega, show i < min p (min (n * s) cur.length) by omega, show i < min p cur.length + news.length by omega, show i < min p (min (n * s) cur.length) + news.length by omega]
    · by_cases h2 : i < p + news.length
      · simp [h1, h2, show i < n * s by omega, show ¬ i < min p cur.length by omega, show ¬ i < min p (min (n * s) cur.length) by omega, show i < min p cur.length + news.length by omega, show i < min p (min (n * s) cur.length) + news.length by omega, show min p cur.length = p by omega, show min p (min (n * s) cur.length) = p by omega]
      · by_cases h3 : i < n * s
        · have e1 : p + news.length + (i - (p + news.length)) = i := by omega
          simp [h3, show ¬ i < min p cur.length + news.length by omega, show ¬ i < min p (min (n * s) cur.length) + news.length by omega, show min p cur.length = p by omega, show min p (min (n * s) cur.length) = p by omega, e1]
        · have e1 : p + news.length + (i - (p + news.length)) = i := by omega
          simp [h3, show ¬ i < min p (min (n * s) cur.length) + news.length by omega, show min p (min (n * s) cur.length) = p by omega, e1]
          try omega

section
variable {P : Program} {w : World}
/-- append(s[:i], ..) where what is appended stays within s. -/
theorem run_append_within {base : Nat} {t ty e : TypeId} {i : TypeInfo} {s n cap g p m c : Nat} {xs news : List Value} {a : Addr} (ht : P.underlying t = some (.slice e)) (hi : P.info? e = some i) (hs : i.size = s)
    (h : w.ownsRow base e s (.slice (some ⟨g, 0, none⟩) n cap) n xs) (hl : news.length = m * s) (hnews : ∀ j u, news[j]? = some u → w.cell? (a.add j) = some u) (h1 : ∀ u ∈ news, u.oneCell' = true) (hp : p + m ≤ n) :
    ∃ w', (Builtin.append_ #[t, t] ty #[.slice (some ⟨g, 0, none⟩) p cap, .slice (some a) m c]).run P w = .ok (.slice (some ⟨g, 0, none⟩) (p + m) cap) w' ∧
      w'.ownsRow base e s (.slice (some ⟨g, 0, none⟩) n cap) n (xs.take (p * s) ++ news ++ xs.drop (p * s + news.length)) ∧ w.grownBy w' (some g) := by
  subst hs
  obtain ⟨cur, hb, hg, hnc, hcm, hcs, htake, hxl⟩ := own_row h
  have hpm : p * i.size + m * i.size ≤ n * i.size := by rw [← Nat.add_mul]; exact Nat.mul_le_mul_right _ hp
  have hns : n * i.size ≤ cap * i.size := Nat.mul_le_mul_right _ hnc
  have hr := run_append_room (P := P) w t ty e i ht hi g p cap cur hg a m c news hl hnews h1 (by omega) (by rw [hl]; omega)
  obtain ⟨h2, h3⟩ := own_over (w := w) (s := i.size) (cur := cur.toList) (news := news) (p := p * i.size) hb (by simpa using hg) hnc hcm (by simpa using hcs) htake (by rw [hl]; omega)
  exact ⟨_, hr, h2, h3⟩

/-- clear(s[p:]) within s. -/
theorem run_clear_within {base : Nat} {t ty e : TypeId} {i : TypeInfo} {z : Value} {s n cap g p m c : Nat} {xs : List Value} (ht : P.underlying t = some (.slice e)) (hi : P.info? e = some i) (hz : i.zero = some z) (hzs : z.cells.size = s) (hz1 : ∀ u ∈ z.cells.toList, u.oneCell' = true)
    (h : w.ownsRow base e s (.slice (some ⟨g, 0, none⟩) n cap) n xs) (hp : p + m ≤ n) (hm : 0 < m) :
    ∃ w', (Builtin.clear_ #[t] ty #[.slice (some ⟨g, p * s, none⟩) m c]).run P w = .ok (.tuple #[]) w' ∧
      w'.ownsRow base e s (.slice (some ⟨g, 0, none⟩) n cap) n (xs.take (p * s) ++ (Builtin.zeroCells z.cells m).toList ++ xs.drop (p * s + m * s)) ∧ w.grownBy w' (some g) := by
  obtain ⟨cur, hb, hg, hnc, hcm, hcs, htake, hxl⟩ := own_row h
  have hpm : p * s + m * s ≤ n * s := by rw [← Nat.add_mul]; exact Nat.mul_le_mul_right _ hp
  have hns : n * s ≤ cap * s := Nat.mul_le_mul_right _ hnc
  have hlz : (Builtin.zeroCells z.cells m).toList.length = m * s := by simp [Builtin.zeroCells, hzs]
  have h1 : ∀ v ∈ (Builtin.zeroCells z.cells m).toList, v.oneCell' = true := by
    intro v hv
    obtain ⟨q, hq, rfl⟩ := List.getElem_of_mem hv
    have hq' : q < m * s := by rw [hlz] at hq; exact hq
    simp only [Builtin.zeroCells, Array.getElem_toList, Array.getElem_map, Array.getElem_range]
    have hlt : q % z.cells.size < z.cells.size := Nat.mod_lt _ (by
      rcases Nat.eq_zero_or_pos z.cells.size with h0 | h0
      · rw [← hzs, h0] at hq'; omega
      · exact h0)
    rw [getElem!_pos z.cells _ hlt]
    exact hz1 _ (by simp)
  have hst := run_storeCells_at P g (p * s) e (Builtin.zeroCells z.cells m).toList 0 cur w hg (by rw [hlz]; omega) h1
  obtain ⟨h2, h3⟩ := own_over (w := w) (s := s) (cur := cur.toList) (news := (Builtin.zeroCells z.cells m).toList) (p := p * s) hb (by simpa using hg) hnc hcm (by simpa using hcs) htake (by rw [hlz]; omega)
  rw [hlz] at h2 h3
  simp only [Nat.add_zero, hlz] at hst
  refine ⟨_, ?_, h2, h3⟩
  obtain ⟨m', rfl⟩ : ∃ m', m = m' + 1 := ⟨m - 1, by omega⟩
  simp [Builtin.clear_, run_underlying ht, zeroValue, typeInfo, hi, hz, hst]

/-- A builtin of two operands whose run is known, at a step of a region that draws and in a list. -/
theorem step_append_run {ops : Array Oper} {o : Oper} {a : Act} {K : Act → World → Prop} {Q : Exit → Act → World → Prop} {E : Prop} (hgd : o.guard = none) (s x : Operand) (t : TypeId)
    (ho : o.op = .call { callee := .builtin .append, args := #[s, x], argTypes := #[t, t] }) {sv xv v : Value} {w' : World} (hs : a.eval s = sv) (hx : a.eval x = xv)
    (hrun : (Builtin.append_ #[t, t] o.type #[sv, xv]).run P w = .ok v w') (h : K (a.put o.dst v) w') : if Region.wanted o (yielded ops a.tmps) = true then Oper.wp P o a w K Q else E := by
  have hw : Region.wanted o (yielded ops a.tmps) = true := by simp [Region.wanted, hgd]
  rw [if_pos hw]
  unfold Oper.wp execOp
  simp only [ho, resolve, invoke, builtin, Sem.run_bind, Sem.run_pure, Result.andThen_ok, List.map_toArray, List.map_cons, List.map_nil, hs, hx, hrun]
  exact h
theorem wpList_append_run {ops : Array Oper} {rest : List Oper} {o : Oper} {a : Act} {Q : Exit → Act → World → Prop} (hgd : o.guard = none) (s x : Operand) (t : TypeId)
    (ho : o.op = .call { callee := .builtin .append, args := #[s, x], argTypes := #[t, t] }) {sv xv v : Value} {w' : World} (hs : a.eval s = sv) (hx : a.eval x = xv)
    (hrun : (Builtin.append_ #[t, t] o.type #[sv, xv]).run P w = .ok v w') (h : wpList P ops Q rest (a.put o.dst v) w') : wpList P ops Q (o :: rest) a w :=
  wpList_plain hgd fun _ hK => by
    unfold Oper.wp execOp
    simp only [ho, resolve, invoke, builtin, Sem.run_bind, Sem.run_pure, Result.andThen_ok, List.map_toArray, List.map_cons, List.map_nil, hs, hx, hrun]
    exact hK _ _ h
theorem wpList_clear_run {ops : Array Oper} {rest : List Oper} {o : Oper} {a : Act} {Q : Exit → Act → World → Prop} (hgd : o.guard = none) (s : Operand) (t : TypeId)
    (ho : o.op = .call { callee := .builtin .clear, args := #[s], argTypes := #[t] }) {sv v : Value} {w' : World} (hs : a.eval s = sv)
    (hrun : (Builtin.clear_ #[t] o.type #[sv]).run P w = .ok v w') (h : wpList P ops Q rest (a.put o.dst v) w') : wpList P ops Q (o :: rest) a w :=
  wpList_plain hgd fun _ hK => by
    unfold Oper.wp execOp
    simp only [ho, resolve, invoke, builtin, Sem.run_bind, Sem.run_pure, Result.andThen_ok, List.map_toArray, List.map_cons, List.map_nil, hs, hrun]
    exact hK _ _ h

/-- The same row, known to a lesser length. -/
theorem own_short {base : Nat} {e : TypeId} {s n m cap g : Nat} {xs : List Value} (h : w.ownsRow base e s (.slice (some ⟨g, 0, none⟩) n cap) n xs) (hm : m ≤ n) :
    w.ownsRow base e s (.slice (some ⟨g, 0, none⟩) m cap) m (xs.take (m * s)) := by
  obtain ⟨cur, hb, hg, hnc, hcm, hcs, htake, hxl⟩ := own_row h
  have hns : m * s ≤ n * s := Nat.mul_le_mul_right _ hm
  refine ⟨by rw [List.length_take]; omega, .inr ⟨g, cap, cur, rfl, hb, hg, by omega, hcm, hcs, ?_⟩⟩
  rw [← htake, List.take_take]
  congr 1
  omega
end

theorem del_row {α : Type} (xs q z r : List α) (k n s : Nat) (hx : xs.length = n * s) (hk : k < n) :
    ((xs.take (k * s) ++ xs.drop ((k + 1) * s) ++ q).take ((n - 1) * s) ++ z ++ r).take ((n - 1) * s) = xs.take (k * s) ++ xs.drop ((k + 1) * s) := by
  have hA : (xs.take (k * s) ++ xs.drop ((k + 1) * s)).length = (n - 1) * s := by
    obtain ⟨m, rfl⟩ : ∃ m, n = k + 1 + m := ⟨n - (k + 1), by omega⟩
    have e : k + 1 + m - 1 = k + m := by omega
    have e2 : (k + 1 + m) * s = k * s + s + m * s := by rw [Nat.add_mul, Nat.add_mul, Nat.one_mul]
    have e3 : (k + 1) * s = k * s + s := by rw [Nat.add_mul, Nat.one_mul]
    have e4 : (k + m) * s = k * s + m * s := by rw [Nat.add_mul]
    rw [e, List.length_append, List.length_take, List.length_drop, hx, e2, e3, e4]
    omega
  rw [List.take_left' hA, List.append_assoc, List.take_left' hA]

/-- A row of memory made since w0 grows: w0 is as it was. -/
theorem grew_row {w0 W W1 : World} {e : TypeId} {s n : Nat} {v : Value} {xs : List Value} (hw : Grew w0 W) (ho : W.ownsRow w0.heap.size e s v n xs) (hg : W.grownBy W1 v.ownBlock) : Grew w0 W1 :=
  hw.grown hg fun k hk hlt => by have := (ho.lt k hk).1; omega

end Go.Proofs.Ytjpkpckgkhbfpaa
