/- PoolParses: what it needs beside. -/
import Derived.Test.YtenmilemdkhijaaDoorPoolCb
import Derived.Maps.AppendAt
import Derived.Laws.OwnMore
namespace Go.Proofs.YtenmilemdkhijaaDoor
open Go.RowKit

theorem sameB_self (x : List Bool) : sameB x x = true := decide_eq_true rfl

/-- append(v, xs...), where xs reads as a list, nil let in. -/
theorem append_sl {P : Program} {w : World} {base : Nat} {t ty e : TypeId} {i : TypeInfo} {z : Value} {size bytes : Nat} (ht : P.underlying t = some (.slice e)) (hi : P.info? e = some i) (hz : i.zero = some z)
    (hsize : i.size = size) (hby : i.bytes = bytes) (hzs : z.cells.size = size) (hsz : 0 < size)
    {v : Value} {n : Nat} {xs : List Value} (hown : w.ownsRow base e size v n xs) {A : Option Addr} {m c : Nat} {news : List Value} (hr : Sl w size A m news) (hnil : A = none → c = 0) (h1 : ∀ u ∈ news, u.oneCell' = true)
    (h63 : n + m ≤ maxLen) (hbytes : (n + m) * bytes ≤ 140737488355328) (hbase : base ≤ w.heap.size) :
    ∃ v' w', (Builtin.append_ #[t, t] ty #[v, .slice A m c]).run P w = .ok v' w' ∧ w'.ownsRow base e size v' (n + m) (xs ++ news) ∧ w.grownBy w' v.ownBlock := by
  rcases A with _ | a
  · have hm : m = 0 := by
      rcases Nat.eq_zero_or_pos m with h0 | h0
      · exact h0
      · obtain ⟨_, _, h, _⟩ := hr.2 h0
        cases h
    subst hm
    have hn : news = [] := List.eq_nil_of_length_eq_zero (by simpa using hr.1)
    subst hn
    rw [hnil rfl]
    exact ⟨v, w, run_append_owned_none w base t ty e i size ht hi v n xs hown, by simpa using hown, World.grownBy.refl w _⟩
  · have hcells : ∀ j u, news[j]? = some u → w.cell? (a.add j) = some u := by
      intro j u hu
      rcases Nat.eq_zero_or_pos m with h0 | h0
      · subst h0
        have hn : news = [] := List.eq_nil_of_length_eq_zero (by simpa using hr.1)
        subst hn
        simp at hu
      · obtain ⟨b, off, h, _, hc⟩ := hr.2 h0
        injection h with h
        subst h
        rw [Addr.add_lit]
        exact hc j u hu
    obtain ⟨v', w', hrun, h2, h3, _, _⟩ := run_append_own_at (P := P) w base t ty e i z size bytes ht hi hz hsize hby hzs hsz v n xs hown a m c news hr.1 hcells h1 h63 hbytes hbase
    exact ⟨v', w', hrun, h2, h3⟩

/-- The bytes as numbers. -/
def fnum (f : Nat → Bool) (m : Nat) : List Int := (List.range m).map fun k => (btf f k : Int)
theorem fnum_len (f : Nat → Bool) (m : Nat) : (fnum f m).length = m := by simp [fnum]
theorem fnum_row (f : Nat → Bool) (m : Nat) : (fnum f m).map (Value.int .u8) = brow f m := by simp [fnum, brow]
/-- string(b). -/
theorem conv_sl {w : World} {f : Nat → Bool} {A : Option Addr} {m c : Nat} (h : Sl w 1 A m (brow f m)) :
    (convert 52 9 (.slice A m c)).run Tryd.prog w = .ok (.string (strOfNums (fnum f m))) w := by
  rcases A with _ | a
  · have h0 : m = 0 := by
      rcases Nat.eq_zero_or_pos m with h0 | h0
      · exact h0
      · obtain ⟨_, _, h, _⟩ := h.2 h0
        cases h
    subst h0
    exact run_convert_bytes_nil w 52 5 Tryd.underlying52 (by kernel_rfl) 0 c 9 (by kernel_rfl)
  · rcases Nat.eq_zero_or_pos m with h0 | h0
    · subst h0
      have hl : (loadCells a 0).run Tryd.prog w = .ok (([] : List Int).map (Value.int .u8)).toArray w := run_loadCells_list (P := Tryd.prog) w a [] (fun j v hj => by simp at hj)
      rw [run_convert_bytes_string w _ _ 5 _ 0 c Tryd.underlying52 (by kernel_rfl) (by kernel_rfl), run_bytesToString w a 0 c [] hl]
      rfl
    · obtain ⟨b, off, e, _, hc⟩ := h.2 h0
      injection e with e
      subst e
      refine run_convert_bytes_arg w 52 5 Tryd.underlying52 (by kernel_rfl) b off m c (fnum f m) (fnum_len f m) (fun i hi => ?_) 9 (by kernel_rfl)
      have := hc i (.int .u8 (btf f i)) (by rw [brow_at, if_pos hi])
      rw [this]
      simp [fnum, hi]
theorem bnum_ofBits {f : Nat → Bool} {n m : Nat} (hm : m = (n + 7) / 8) (h : ∀ i, n ≤ i → i < 8 * m → f i = false) : bnum (ofBits f n) m = fnum f m := by
  unfold bnum fnum
  refine List.map_congr_left fun k hk => ?_
  have hk' : k < m := List.mem_range.1 hk
  refine congrArg (fun n : Nat => (n : Int)) ?_
  unfold bt btf
  refine bitsN_ext fun j hj => ?_
  rw [ofBits_at]
  by_cases hn : 8 * k + j < n
  · simp [hn]
  · simp [hn, h (8 * k + j) (by omega) (by omega)]

/-- Bytes of data, as bits. -/
def bitOf (l : List Int) : Nat → Bool := fun j => (l.getD (j / 8) 0).toNat.testBit (j % 8)
theorem bitOf_row {l : List Int} (h : ∀ n ∈ l, 0 ≤ n ∧ n ≤ 255) : l.map (Value.int .u8) = brow (bitOf l) l.length := by
  refine List.ext_getElem? fun k => ?_
  rw [brow_at, List.getElem?_map]
  by_cases hk : k < l.length
  · rw [if_pos hk, List.getElem?_eq_getElem hk]
    refine congrArg (fun n : Int => some (Value.int .u8 n)) ?_
    have hb := h l[k] (List.getElem_mem hk)
    unfold btf
    have e : bitsN (fun j => bitOf l (8 * k + j)) 8 = bitsN (l[k].toNat.testBit) 8 := bitsN_ext fun j hj => by
      unfold bitOf
      rw [show (8 * k + j) / 8 = k by omega, show (8 * k + j) % 8 = j by omega, List.getD_eq_getElem?_getD, List.getElem?_eq_getElem hk]
      rfl
    rw [e, bitsN_of (by omega)]
    omega
  · rw [if_neg hk, List.getElem?_eq_none (by omega)]
    rfl

/-- What is wanted behind k bits. -/
def wantB (f : Nat → Bool) (n : Nat) (v : Bool) (k : Nat) : Bool := v || (List.range k).any fun i => decide (n ≤ i) && f i
theorem wantB_zero (f : Nat → Bool) (n : Nat) (v : Bool) : wantB f n v 0 = v := by simp [wantB]
theorem wantB_succ (f : Nat → Bool) (n : Nat) (v : Bool) (k : Nat) : wantB f n v (k + 1) = (wantB f n v k || (decide (n ≤ k) && f k)) := by
  simp [wantB, List.range_succ, Bool.or_assoc]
theorem wantB_true {f : Nat → Bool} {n k i : Nat} {v : Bool} (h : v = true ∨ (n ≤ i ∧ i < k ∧ f i = true)) : wantB f n v k = true := by
  unfold wantB
  rcases h with h | ⟨h1, h2, h3⟩
  · simp [h]
  · rw [Bool.or_eq_true]
    exact .inr (List.any_eq_true.2 ⟨i, List.mem_range.2 h2, by simp [h1, h3]⟩)
theorem stpL_take_same (y : List Bool) (o : Pop) (ho : o.kind = 1) : sameB (stpL y o) y = decide (cnt y = 0) := by
  unfold sameB
  refine decide_eq_decide.2 ?_
  unfold stpL
  rw [if_pos ho]
  cases hx : nxt y 0 with
  | none =>
    refine ⟨fun _ => ?_, fun _ => rfl⟩
    exact cntN_false fun j _ => nxt_none.1 hx j (Nat.zero_le _)
  | some j =>
    obtain ⟨h1, h2, h3, h4⟩ := nxt_some.1 hx
    refine ⟨fun h => ?_, fun h => ?_⟩
    · have := trn_at h2 j
      have h : trn y j = y := h
      rw [h, if_pos rfl, h3] at this
      cases this
    · exfalso
      have h5 := cnt_step hx
      have h6 : cntN (fun m => y.getD m false) (j + 1) ≤ cnt y := by
        unfold cnt
        obtain ⟨d, hd⟩ := Nat.exists_eq_add_of_le (show j + 1 ≤ y.length by omega)
        rw [hd, cntN_add (fun j => y.getD j false) (j + 1) d]
        exact Nat.le_add_right _ _
      omega

theorem pparse_all (n : Nat) (f : Nat → Bool) (m : Nat) (B : Option Addr) (cb : Nat) (w : World) (hn : n ≤ 300) (hm : m ≤ 100) (hs : Sl w 1 B m (brow f m)) (hT : TabAt 0 tab w) (R : Ending → World → Prop)
    (hbad : ∀ w', (m ≠ (n + 7) / 8 ∨ ∃ i, n ≤ i ∧ i < 8 * m ∧ f i = true) → Grew w w' → R (.returned (.tuple #[.pointer none, .bool false])) w')
    (hok : m = (n + 7) / 8 → (∀ i, n ≤ i → i < 8 * m → f i = false) → ∀ e w', PParsed w w' (ofBits f n) e → R e w') :
    Calls Tryd.prog 21 #[.slice B m cb, .int .i64 n] w R := by
  by_cases hne : m = (n + 7) / 8
  · exact pparse_any n f m B cb w hn hm hne hs hT R (fun i w' h1 h2 h3 h4 => hbad w' (.inr ⟨i, h1, h2, h3⟩) h4) (hok hne)
  · exact (pparse_len n f m B cb w hn hm hne).mono fun e w' ⟨he, hg⟩ => he ▸ hbad w' (.inl hne) hg

end Go.Proofs.YtenmilemdkhijaaDoor
