/- Texts 4 of 7 that the proof of BtreeOrders stands on. -/
import Derived.Test.YtpkkcicaeldodaaGreatDoorMgBtreeOrders3
import Derived.OrdersHeld
import Derived.Deep.RegionHeld
import Derived.OrdersIn
set_option linter.unusedSimpArgs false
set_option linter.unusedVariables false

/- The tree: slices.Insert of one number into a row of the call's own. -/
namespace Go.Proofs.YtpkkcicaeldodaaGreatDoor
open Go.RowKit Go.Maps Go.Lib

/-- Some cells of a block are laid over. -/
theorem setCells_blk {e : TypeId} {g : Nat} : ∀ (vs : List Value) (o : Nat) (w : World) (cur : Array Value), Blk w g e cur → o + vs.length ≤ cur.size →
    ∃ cur', Blk (w.setCells g o vs) g e cur' ∧ cur'.size = cur.size ∧ (∀ j : Nat, cur'[j]? = if o ≤ j ∧ j < o + vs.length then vs[j - o]? else cur[j]?) ∧ Chg (fun j => j = g) w (w.setCells g o vs)
  | [], o, w, cur, h, _ => ⟨cur, h, rfl, fun j => by rw [if_neg (fun e => by have h1 := e.1; have h2 := e.2; simp only [List.length_nil] at h2; omega)], Chg.refl _ _⟩
  | v :: vs, o, w, cur, h, hl => by
    simp only [List.length_cons] at hl
    obtain ⟨cur', h1, h2, h3, h4⟩ := setCells_blk vs (o + 1) (w.setCell ⟨g, o, none⟩ v) (cur.setIfInBounds o v) (h.put o v) (by simp; omega)
    refine ⟨cur', h1, by simpa using h2, fun j => ?_, Chg.trans ((Chg.refl (fun j => j = g) w).setCell (p := ⟨g, o, none⟩) (fun _ => rfl) v) h4 fun _ _ e => e⟩
    rw [h3 j]
    by_cases e1 : j = o
    · subst e1
      rw [if_neg (by omega), if_pos (by simp), Nat.sub_self]
      simp [show j < cur.size by omega]
    · by_cases e2 : o + 1 ≤ j ∧ j < o + 1 + vs.length
      · rw [if_pos e2, if_pos (by simp; omega)]
        obtain ⟨m, rfl⟩ : ∃ m, j = o + 1 + m := ⟨j - (o + 1), by omega⟩
        rw [show o + 1 + m - (o + 1) = m by omega, show o + 1 + m - o = m + 1 by omega, List.getElem?_cons_succ]
      · rw [if_neg e2, if_neg (by simp; omega), Array.getElem?_setIfInBounds]
        rw [if_neg (fun e => e1 e.symm)]
theorem own_mk {w : World} {base n cap g : Nat} {e : TypeId} {xs : List Value} {cur : Array Value} (hb : base ≤ g) (hg : Blk w g e cur) (hn : n ≤ cap) (hm : cap ≤ maxLen) (hc : cur.size = cap) (hx : xs.length = n) (h : ∀ j, j < n → cur[j]? = xs[j]?) :
    w.ownsRow base e 1 (.slice (some ⟨g, 0, none⟩) n cap) n xs := by
  refine ⟨by omega, .inr ⟨g, cap, cur, rfl, hb, hg, hn, hm, by omega, ?_⟩⟩
  apply List.ext_getElem?
  intro j
  rw [List.getElem?_take]
  by_cases hj : j < n
  · rw [if_pos (by omega)]
    have := h j hj
    simpa using this
  · rw [if_neg (by omega), List.getElem?_eq_none (by omega)]

def insI (l : List Int) (i : Nat) (a : Int) : List Int := l.take i ++ a :: l.drop i
theorem insI_len {l : List Int} {i : Nat} (a : Int) (h : i ≤ l.length) : (insI l i a).length = l.length + 1 := by simp [insI]; omega
theorem insI_at {l : List Int} {i : Nat} (a : Int) (h : i ≤ l.length) (j : Nat) : (iv (insI l i a))[j]? = if j < i then (iv l)[j]? else if j = i then some (.int .i64 a) else (iv l)[j - 1]? := by
  unfold insI iv
  rw [List.map_append, List.map_cons]
  by_cases h1 : j < i
  · rw [if_pos h1, List.getElem?_append_left (by simp; omega)]
    simp [h1]
  · rw [if_neg h1, List.getElem?_append_right (by simp; omega)]
    have e : (List.map (Value.int .i64) (l.take i)).length = i := by simp; omega
    rw [e]
    by_cases h2 : j = i
    · subst h2; rw [if_pos rfl, Nat.sub_self]; rfl
    · rw [if_neg h2]
      obtain ⟨m, rfl⟩ : ∃ m, j = i + 1 + m := ⟨j - (i + 1), by omega⟩
      rw [show i + 1 + m - i = m + 1 by omega, List.getElem?_cons_succ, show i + 1 + m - 1 = i + m by omega]
      simp
/-- What Insert leaves. -/
def InsOut (w w' : World) (base : Nat) (v : Value) (l : List Int) (i : Nat) (a : Int) (e : Ending) : Prop := ∃ v', e = .returned v' ∧ w'.ownsRow base 3 1 v' (l.length + 1) (iv (insI l i a)) ∧ Ap w w' v v'
theorem one_at {g : Nat} {w : World} {a : Int} (h : Blk w g 3 #[.int .i64 a]) : ∀ j v, [Value.int .i64 a][j]? = some v → w.cell? ⟨g, 0 + j, none⟩ = some v := by
  intro j v hv
  match j, hv with
  | 0, hv => simp at hv; subst hv; exact h.cell 0
theorem binsert_any (base : Nat) (v : Value) (l : List Int) (i g : Nat) (a : Int) (w : World) (ho : w.ownsRow base 3 1 v l.length (iv l)) (hl : l.length ≤ 1000000) (hi : i ≤ l.length) (hg : Blk w g 3 #[.int .i64 a]) (hne : v.ownBlock ≠ some g) (hb : base ≤ w.heap.size) :
    Calls Tryz.prog 44 #[v, .int .i64 i, .slice (some ⟨g, 0, none⟩) 1 1] w fun e w' => InsOut w w' base v l i a e := by
  have hml : maxLen = 9223372036854775807 ∨ True := .inr trivial
  obtain ⟨A, c, rfl, hnc⟩ := own_shape ho
  have hz0 : (Value.int .i64 0).cells = #[.int .i64 0] := rfl
  have hxl : (iv (insI l i a)).length = l.length + 1 := by rw [iv_len, insI_len a hi]
  cases A with
  | none =>
    obtain ⟨h0, rfl⟩ := own_none ho
    have hl0 : l = [] := List.eq_nil_of_length_eq_zero h0
    subst hl0
    obtain rfl : i = 0 := by simpa using hi
    refine Calls.mono (Any2.slices_Insert_int_end_grow insertInt none 0 0 g 0 1 1 [] [.int .i64 a] w (by omega) (Nat.le_refl _) (by omega) (by omega) rfl rfl (fun _ => rfl) (fun a h => by cases h) (one_at hg) (by simp [Value.oneCell'])) ?_
    rintro e w' ⟨rfl, rfl⟩
    have hcap := grownCap_ge w (0 + 1) 0 (insertInt_ren.t 3)
    have hcap2 := grownCap_le_maxLen w (0 + 1) 0 (insertInt_ren.t 3) (by simp [maxLen])
    obtain ⟨cp, hcp⟩ : ∃ q, grownCap w (0 + 1) 0 (insertInt_ren.t 3) = q := ⟨_, rfl⟩
    rw [hcp] at hcap hcap2 ⊢
    refine ⟨_, rfl, own_mk hb (Blk.new w.drew 3 _) hcap hcap2 (by simp [hz0, size_zeroCells]; omega) hxl fun j hj => ?_, (Chg.refl _ _).drew.alloc _, fun j hj => .inr (by simp [Value.ownBlock] at hj; omega)⟩
    obtain rfl : j = 0 := by simp at hj; omega
    rw [Array.getElem?_append_left (by simp)]
    simp [insI, iv]
  | some ad =>
    obtain ⟨b, rfl, hbl⟩ := own_some ho
    obtain ⟨cur, hbb, hbg, hnc2, hcm, hcs, htk, hxl2⟩ := own_row ho
    have hcs' : cur.size = c := by omega
    have hcur : ∀ j, j < l.length → cur[j]? = (iv l)[j]? := fun j hj => by
      rw [← htk, Nat.mul_one, List.getElem?_take, if_pos hj]
      simp
    have hbw : Blk w b 3 cur := hbg
    have hcell : ∀ j u, (iv l)[j]? = some u → w.cell? ⟨b, 0 + j, none⟩ = some u := fun j u hu => by
      rw [Nat.zero_add, hbw.cell, hcur j (by have := (List.getElem?_eq_some_iff.1 hu).1; rwa [iv_len] at this), hu]
    have hgb : g ≠ b := fun e => hne (by simp [Value.ownBlock, e])
    simp only [maxLen] at hcm
    by_cases hin : i = l.length
    · subst hin
      by_cases hroom : l.length + 1 ≤ c
      · refine Calls.mono (Any2.slices_Insert_int_end_room insertInt b 0 l.length c g 0 1 1 [.int .i64 a] w (by omega) hroom (by omega) rfl (fun j hj => ?_) (fun j hj => hbw.frozen _) (one_at hg) (by simp [Value.oneCell'])) ?_
        · obtain rfl : j = 0 := by omega
          rw [hbw.cell]
          simp [show l.length < cur.size by omega]
        · rintro e w' ⟨rfl, rfl⟩
          obtain ⟨cur', g1, g2, g3, g4⟩ := setCells_blk [.int .i64 a] (0 + l.length) w cur hbw (by simp; omega)
          refine ⟨_, rfl, own_mk hbb g1 hroom (by simp only [maxLen]; omega) (by omega) hxl fun j hj => ?_, g4.mono fun j _ e => by subst e; simp [Value.ownBlock], fun j hj => .inl hj⟩
          rw [g3 j, insI_at a hi]
          by_cases e1 : j < l.length
          · rw [if_neg (by simp; omega), if_pos e1, hcur j e1]
          · have e2 : j = l.length := by omega
            subst e2
            simp
      · refine Calls.mono (Any2.slices_Insert_int_end_grow insertInt (some ⟨b, 0, none⟩) l.length c g 0 1 1 (iv l) [.int .i64 a] w (by omega) hnc (by omega) (by omega) (iv_len l) rfl (fun h => by cases h) (fun ad h => by cases h; intro j u hu; rw [Addr.add_lit]; exact hcell j u hu) (one_at hg) (by simp [Value.oneCell'])) ?_
        rintro e w' ⟨rfl, rfl⟩
        have hcap := grownCap_ge w (l.length + 1) c (insertInt_ren.t 3)
        have hcap2 := grownCap_le_maxLen w (l.length + 1) c (insertInt_ren.t 3) (by simp only [maxLen]; omega)
        refine ⟨_, rfl, own_mk hb (Blk.new w.drew 3 _) hcap hcap2 (by simp [hz0, size_zeroCells, iv_len]; omega) hxl fun j hj => ?_, (Chg.refl _ _).drew.alloc _, fun j hj => .inr (by simp [Value.ownBlock] at hj; omega)⟩
        rw [Array.getElem?_append_left (by simp [iv_len]; omega), insI_at a hi]
        by_cases e1 : j < l.length
        · rw [if_pos e1, List.getElem?_toArray, List.getElem?_append_left (by rw [iv_len]; exact e1)]
        · have e2 : j = l.length := by omega
          subst e2
          simp [iv]
    · have hilt : i < l.length := by omega
      by_cases hroom : l.length + 1 ≤ c
      · have hsh : w.shape? g = some (3, 1) := by
          unfold Blk at hg
          simp [World.shape?, hg]
        have hsh2 : w.shape? b = some (3, cur.size) := by simp [World.shape?, hbg]
        refine Calls.mono (Any2.slices_Insert_int_shift insertInt b 0 l.length c i g 0 1 1 (iv l) [.int .i64 a] w hilt (by omega) hroom (by omega) hgb (iv_len l) rfl hcell (fun j hj => ?_) (fun j hj => hbw.frozen _) (one_at hg) (iv_one l) (by simp [Value.oneCell']) _ _ _ _ hsh hsh2 (by omega) (hg.frozen 0) (hg.frozen 1)) ?_
        · rw [hbw.cell]
          simp [show j < cur.size by omega]
        · rintro e w' ⟨rfl, rfl⟩
          obtain ⟨cu1, g1, g2, g3, g4⟩ := setCells_blk ((iv l).drop i) (0 + (i + 1)) w.drew cur hbw (by rw [List.length_drop, iv_len]; omega)
          obtain ⟨cu2, k1, k2, k3, k4⟩ := setCells_blk [.int .i64 a] (0 + i) _ cu1 g1 (by simp; omega)
          refine ⟨_, rfl, own_mk hbb k1 hroom (by simp only [maxLen]; omega) (by omega) hxl fun j hj => ?_, (Chg.trans ((Chg.refl (fun j => j = b) w).drew) (Chg.trans g4 k4 fun _ _ e => e) fun _ _ e => e).mono fun j _ e => by subst e; simp [Value.ownBlock], fun j hj => .inl hj⟩
          rw [k3 j, insI_at a hi, g3 j]
          have hd : ((iv l).drop i).length = l.length - i := by rw [List.length_drop, iv_len]
          by_cases e1 : j < i
          · rw [if_neg (by simp; omega), if_neg (by rw [hd]; omega), if_pos e1, hcur j (by omega)]
          · by_cases e2 : j = i
            · subst e2; simp
            · rw [if_neg (by simp; omega), if_pos (by rw [hd]; omega), if_neg e1, if_neg e2, List.getElem?_drop]
              congr 1
              omega
      · refine Calls.mono (Any2.slices_Insert_int_grow insertInt b 0 l.length c i g 0 1 1 (iv l) [.int .i64 a] w hilt (by omega) hnc (by omega) (by omega) (iv_len l) rfl hcell (one_at hg) (iv_one l) (by simp [Value.oneCell'])) ?_
        rintro e w' ⟨rfl, rfl⟩
        have hcap := grownCap_ge w (l.length + 1) c (insertInt_ren.t 3)
        have hcap2 := grownCap_le_maxLen w (l.length + 1) c (insertInt_ren.t 3) (by simp only [maxLen]; omega)
        obtain ⟨cp, hcp⟩ : ∃ q, grownCap w (l.length + 1) c (insertInt_ren.t 3) = q := ⟨_, rfl⟩
        rw [hcp] at hcap hcap2 ⊢
        obtain ⟨cur0, hcur0⟩ : ∃ q, ((iv l).take i).toArray ++ Builtin.zeroCells (Value.int .i64 0).cells (l.length + 1 - i) ++ Builtin.zeroCells (Value.int .i64 0).cells (cp - (l.length + 1)) = q := ⟨_, rfl⟩
        have hs0 : cur0.size = cp := by
          rw [← hcur0]
          simp only [Array.size_append, size_zeroCells, hz0, List.size_toArray, List.length_take, iv_len]
          simp
          omega
        have h00 : ∀ j, j < i → cur0[j]? = (iv l)[j]? := fun j hj => by
          rw [← hcur0, Array.getElem?_append_left (by simp [iv_len]; omega), Array.getElem?_append_left (by simp [iv_len]; omega)]
          simp [hj]
        have hB0 : Blk (w.alloc (.cells cur0 3)).drew w.heap.size 3 cur0 := Blk.new _ _ _
        obtain ⟨cu1, g1, g2, g3, g4⟩ := setCells_blk [.int .i64 a] i _ cur0 hB0 (by simp; omega)
        obtain ⟨cu2, k1, k2, k3, k4⟩ := setCells_blk ((iv l).drop i) (i + 1) _ cu1 g1.drew (by rw [List.length_drop, iv_len]; omega)
        rw [hcur0]
        have hgr : Grew w (w.alloc (.cells cur0 3)).drew := ((Chg.refl _ _).alloc _).drew
        refine ⟨_, rfl, own_mk hb k1 hcap hcap2 (by omega) hxl fun j hj => ?_, ?_, fun j hj => .inr (by simp [Value.ownBlock] at hj; omega)⟩
        · rw [k3 j, insI_at a hi, g3 j]
          have hd : ((iv l).drop i).length = l.length - i := by rw [List.length_drop, iv_len]
          by_cases e1 : j < i
          · rw [if_neg (by rw [hd]; omega), if_neg (by simp; omega), if_pos e1, h00 j e1]
          · by_cases e2 : j = i
            · subst e2; rw [if_neg (by omega), if_neg e1, if_pos rfl]; simp
            · rw [if_pos (by rw [hd]; omega), if_neg e1, if_neg e2, List.getElem?_drop]
              congr 1
              omega
        · have h9 : Grew w _ := Chg.trans hgr (Chg.trans (g4.drew) k4 fun _ _ e => e) fun q hq e => by omega
          exact h9.chg
end Go.Proofs.YtpkkcicaeldodaaGreatDoor

/- The tree (plain): a full child becomes two. -/
namespace Go.Proofs.YtpkkcicaeldodaaGreatDoor

def insN (l : List Nat) (i a : Nat) : List Nat := l.take i ++ a :: l.drop i
/-- The two halves of a full node. -/
def Nd.lo (kd : Nd) (h : Nat) : Nd := ⟨kd.keys.take (h - 1), kd.vals.take (h - 1), kd.kids.take h⟩
def Nd.hi (kd : Nd) (h : Nat) : Nd := ⟨kd.keys.drop h, kd.vals.drop h, kd.kids.drop h⟩
/-- A node with a key, and a child behind it. -/
def Nd.ins (nd : Nd) (i : Nat) (k v : Int) (r : Nat) : Nd := ⟨insI nd.keys i k, insI nd.vals i v, insN nd.kids (i + 1) r⟩
theorem zip_take {α β : Type} : ∀ (a : List α) (b : List β) (n : Nat), (a.take n).zip (b.take n) = (a.zip b).take n
  | [], b, n => by simp
  | x :: a, [], n => by simp
  | x :: a, y :: b, 0 => by simp
  | x :: a, y :: b, n + 1 => by simp [zip_take a b n]
theorem zip_drop {α β : Type} : ∀ (a : List α) (b : List β) (n : Nat), (a.drop n).zip (b.drop n) = (a.zip b).drop n
  | [], b, n => by simp
  | x :: a, [], n => by simp
  | x :: a, y :: b, 0 => by simp
  | x :: a, y :: b, n + 1 => by simp [zip_drop a b n]
theorem zip_ins {α β : Type} : ∀ (a : List α) (b : List β) (n : Nat) (x : α) (y : β), a.length = b.length → n ≤ a.length → (a.take n ++ x :: a.drop n).zip (b.take n ++ y :: b.drop n) = (a.zip b).take n ++ (x, y) :: (a.zip b).drop n
  | a, b, 0, x, y, _, _ => by simp
  | [], b, n + 1, x, y, _, h => by simp at h
  | u :: a, [], n + 1, x, y, h, _ => by simp at h
  | u :: a, v :: b, n + 1, x, y, h, h2 => by simp [zip_ins a b n x y (by simpa using h) (by simpa using h2)]
theorem Nd.lo_kvs (kd : Nd) (h : Nat) : (kd.lo h).kvs = kd.kvs.take (h - 1) := zip_take _ _ _
theorem Nd.hi_kvs (kd : Nd) (h : Nat) : (kd.hi h).kvs = kd.kvs.drop h := zip_drop _ _ _
theorem Nd.ins_kvs {nd : Nd} (hv : nd.vals.length = nd.keys.length) {i : Nat} (hi : i ≤ nd.keys.length) (k v : Int) (r : Nat) : (nd.ins i k v r).kvs = nd.kvs.take i ++ (k, v) :: nd.kvs.drop i := zip_ins _ _ _ _ _ hv.symm hi
theorem at_split {α : Type} {l : List α} {i : Nat} {a : α} (h : l[i]? = some a) : l = l.take i ++ a :: l.drop (i + 1) := by
  obtain ⟨hl, he⟩ := List.getElem?_eq_some_iff.1 h
  rw [← he, ← List.drop_eq_getElem_cons hl, List.take_append_drop]
theorem Suf.fr {R : Nat → List KV → List Nat → Prop} {ks : List Nat} {k : KV} {kv B : List KV} {P : List Nat} (h : Suf R ks (k :: kv) B P) : ∃ L, B = k :: L ∧ Fr R ks kv L P := by
  generalize hV : k :: kv = V at h
  induction h generalizing k kv with
  | nil => cases hV
  | @cons q M P1 k1 ks1 kv1 L1 P2 h1 h2 ih =>
    cases hV
    cases kv1 with
    | nil =>
      cases h2
      exact ⟨M ++ [], rfl, by simpa using Fr.one h1⟩
    | cons k2 kv2 =>
      obtain ⟨L', e, h3⟩ := ih rfl
      subst e
      exact ⟨M ++ k2 :: L', rfl, .cons h1 h3⟩
section
variable {rd rd' : Nat → Option Nd} {h d q r : Nat} {M : List KV} {P : List Nat} {kd : Nd}
/-- A full node becomes two. -/
theorem Tr.halves (t : Tr rd h d q M P) (hn : rd q = some kd) (hh : 2 ≤ h) (hf : kd.keys.length = 2 * h - 1) (hP : P.Nodup) (hr : r ∉ P) (h1 : rd' q = some (kd.lo h)) (h2 : rd' r = some (kd.hi h)) (h3 : ∀ i ∈ P, i ≠ q → rd' i = rd i) :
    ∃ k v M1 M2 P1 P2, kd.keys[h - 1]? = some k ∧ kd.vals[h - 1]? = some v ∧ M = M1 ++ (k, v) :: M2 ∧ Tc rd' h d q M1 P1 ∧ Tc rd' h d r M2 P2 ∧ (P1 ++ P2).Perm (r :: P) := by
  have hlk : (kd.lo h).keys.length = h - 1 := by simp [Nd.lo]; omega
  have hhk : (kd.hi h).keys.length = h - 1 := by simp [Nd.hi]; omega
  have n1 : h - 1 ≤ nk rd' q := by rw [nk_eq h1, hlk]; exact Nat.le_refl _
  have n2 : h - 1 ≤ nk rd' r := by rw [nk_eq h2, hhk]; exact Nat.le_refl _
  have hvl : kd.vals.length = kd.keys.length := by
    obtain ⟨nd', g1, g2, -⟩ := t.node
    rw [hn] at g1; cases g1; exact g2
  obtain ⟨k, hk⟩ : ∃ k, kd.keys[h - 1]? = some k := ⟨_, List.getElem?_eq_getElem (by omega)⟩
  obtain ⟨v, hv⟩ : ∃ v, kd.vals[h - 1]? = some v := ⟨_, List.getElem?_eq_getElem (by omega)⟩
  have hkv := at_split (kvs_at hvl hk hv)
  rw [show h - 1 + 1 = h by omega] at hkv
  have l1 : (kd.lo h).vals.length = (kd.lo h).keys.length := by simp [Nd.lo, hvl]
  have l2 : (kd.hi h).vals.length = (kd.hi h).keys.length := by simp [Nd.hi, hvl]
  cases d with
  | zero =>
    obtain ⟨nd', g1, g2, g3, g4, rfl, rfl⟩ := t
    rw [hn] at g1
    cases g1
    refine ⟨k, v, _, _, [q], [r], hk, hv, hkv, ⟨⟨_, h1, by simp [Nd.lo, g2], l1, by omega, (Nd.lo_kvs _ _).symm, rfl⟩, n1⟩, ⟨⟨_, h2, by simp [Nd.hi, g2], l2, by omega, (Nd.hi_kvs _ _).symm, rfl⟩, n2⟩, List.Perm.swap _ _ _⟩
  | succ d =>
    obtain ⟨nd', P', g1, g2, g3, g4, g5, rfl⟩ := t
    rw [hn] at g1
    cases g1
    have hcl := g5.len
    rw [kvs_len hvl] at hcl
    have hq := List.nodup_cons.1 hP
    have g5' : Fr (fun q L P => Tr rd' h d q L P ∧ h - 1 ≤ nk rd' q) kd.kids kd.kvs M P' := g5.mono fun c M' Q hc hQ => Tc.frame hc fun i hi => h3 i (List.mem_cons_of_mem _ (hQ i hi)) fun e => hq.1 (e ▸ hQ i hi)
    rw [hkv, ← List.take_append_drop h kd.kids] at g5'
    obtain ⟨M1, P1, B, PB, k1, k2, rfl, rfl⟩ := g5'.cutr (by simp [kvs_len hvl]; omega)
    obtain ⟨M2, rfl, k3⟩ := k2.fr
    refine ⟨k, v, M1, M2, q :: P1, r :: PB, hk, hv, rfl, ⟨⟨_, P1, h1, l1, by omega, by omega, ?_, rfl⟩, n1⟩, ⟨⟨_, PB, h2, l2, by omega, by omega, ?_, rfl⟩, n2⟩, ?_⟩
    · rw [Nd.lo_kvs]; exact k1
    · rw [Nd.hi_kvs]; exact k3
    · have : (q :: (P1 ++ r :: PB)).Perm (q :: r :: (P1 ++ PB)) := List.Perm.cons _ List.perm_middle
      exact this.trans (List.Perm.swap _ _ _)
/-- .. below a node. -/
theorem Fr.split {nd : Nd} {i : Nat} {L : List KV} (f : Fr (Tc rd h d) nd.kids nd.kvs L P) (hvl : nd.vals.length = nd.keys.length) (hi : nd.kids[i]? = some q) (hn : rd q = some kd) (hh : 2 ≤ h) (hf : kd.keys.length = 2 * h - 1) (hP : P.Nodup) (hr : r ∉ P)
    (h1 : rd' q = some (kd.lo h)) (h2 : rd' r = some (kd.hi h)) (h3 : ∀ j ∈ P, j ≠ q → rd' j = rd j) :
    ∃ k v P', kd.keys[h - 1]? = some k ∧ kd.vals[h - 1]? = some v ∧ Fr (Tc rd' h d) (nd.ins i k v r).kids (nd.ins i k v r).kvs L P' ∧ P'.Perm (r :: P) := by
  have hcl := f.len
  rw [kvs_len hvl] at hcl
  have hil := (List.getElem?_eq_some_iff.1 hi).1
  have e1 : nd.kids = nd.kids.take i ++ [q] ++ nd.kids.drop (i + 1) := by
    have := at_split hi
    simpa using this
  have e2 : nd.kvs = nd.kvs.take i ++ [] ++ nd.kvs.drop i := by simp
  have f' := f
  rw [e1, e2] at f'
  obtain ⟨A, PA, M, PM, B, PB, g1, g2, g3, rfl, rfl⟩ := f'.focus (by rw [List.length_take, List.length_take, kvs_len hvl]; omega) rfl
  cases g2 with
  | one g2 =>
    have hPM : PM.Nodup := List.Nodup.sublist ((List.sublist_append_right PA PM).trans (List.sublist_append_left _ _)) hP
    have hqM : q ∈ PM := g2.1.root_mem
    obtain ⟨k, v, M1, M2, P1, P2, k1, k2, rfl, k4, k5, k6⟩ := g2.1.halves (rd' := rd') (r := r) hn hh hf hPM (fun e => hr (by simp [e])) h1 h2 fun j hj => h3 j (by simp [hj])
    have hA : ∀ j ∈ PA, j ≠ q := fun j hj e => by
      have := (List.nodup_append.1 (List.nodup_append.1 hP).1).2.2 j hj q hqM
      exact this e
    have hB : ∀ j ∈ PB, j ≠ q := fun j hj e => by
      have := (List.nodup_append.1 hP).2.2 q (by simp [hqM]) j hj
      exact this e.symm
    refine ⟨k, v, PA ++ (P1 ++ P2) ++ PB, k1, k2, ?_, ?_⟩
    · have hb := Fr.build (g1.mono fun c M' Q hc hQ => Tc.frame (rd' := rd') hc fun j hj => h3 j (by simp [hQ j hj]) (hA j (hQ j hj))) (Fr.cons (k := (k, v)) k4 (Fr.one k5)) (g3.mono fun c M' Q hc hQ => Tc.frame (rd' := rd') hc fun j hj => h3 j (by simp [hQ j hj]) (hB j (hQ j hj)))
      rw [Nd.ins_kvs hvl (by omega)]
      have ek : (nd.ins i k v r).kids = nd.kids.take i ++ [q, r] ++ nd.kids.drop (i + 1) := by
        simp only [Nd.ins, insN]
        rw [List.take_add_one, hi]
        simp
      rw [ek]
      simpa using hb
    · have s1 : (PA ++ (P1 ++ P2) ++ PB).Perm (PA ++ (r :: PM) ++ PB) := (k6.append_left PA).append_right PB
      refine s1.trans ?_
      simp
end
end Go.Proofs.YtpkkcicaeldodaaGreatDoor

/- The tree (plain): a key is put: into a leaf; a child on the way is split; the root grows; how deep a tree is. -/
namespace Go.Proofs.YtpkkcicaeldodaaGreatDoor

theorem leaf_put {nd : Nd} {k : Int} (hv : nd.vals.length = nd.keys.length) (hs : nd.keys.Pairwise (· < ·)) (hk : nd.keys.contains k = false) (v : Int) : Nd.kvs ⟨insI nd.keys (atI nd.keys k) k, insI nd.vals (atI nd.keys k) v, []⟩ = putL nd.kvs k v := by
  have h1 : Nd.kvs ⟨insI nd.keys (atI nd.keys k) k, insI nd.vals (atI nd.keys k) v, []⟩ = nd.kvs.take (atI nd.keys k) ++ (k, v) :: nd.kvs.drop (atI nd.keys k) := zip_ins _ _ _ _ _ hv.symm (atI_le _ _)
  rw [h1]
  have h2 := putL_mid (A := nd.kvs.take (atI nd.keys k)) (M := []) (B := nd.kvs.drop (atI nd.keys k)) (k := k) (v := v) (fst_mem (kvs_take hv _) (atI_split nd.keys k hs).1) (fst_mem (kvs_drop hv _) (atI_missed hs hk))
  rw [List.append_nil, List.take_append_drop] at h2
  rw [h2]
  simp [putL]
section
variable {rd rd' : Nat → Option Nd} {h D root : Nat} {k : Int} {L : List KV} {P : List Nat} {d q r : Nat} {nd kd : Nd} {A M B : List KV} {P1 PM P2 : List Nat}
theorem WayAt.apart (a : WayAt rd h D root k L P d q nd A M B P1 PM P2) (hn : P.Nodup) : (∀ i ∈ P1, i ∉ PM) ∧ (∀ i ∈ P2, i ∉ PM) ∧ PM.Nodup ∧ q ∈ PM := by
  rw [a.p] at hn
  obtain ⟨h1, h2, h3⟩ := List.nodup_append.1 hn
  obtain ⟨h4, h5, h6⟩ := List.nodup_append.1 h1
  exact ⟨fun i hi hm => h6 i hi i hm rfl, fun i hi hm => h3 i (List.mem_append_right _ hm) i hi rfl, h5, a.tr.root_mem⟩
/-- A key that is not there is put into its leaf. -/
theorem WayAt.put (a : WayAt rd h D root k L P 0 q nd A M B P1 PM P2) (hs : Srt L) (hn : P.Nodup) (hk : nd.keys.contains k = false) (hf : nd.keys.length + 1 ≤ 2 * h - 1) {v : Int}
    (h1 : rd' q = some ⟨insI nd.keys (atI nd.keys k) k, insI nd.vals (atI nd.keys k) v, []⟩) (h2 : ∀ i ∈ P, i ≠ q → rd' i = rd i) : Tr rd' h D root (putL L k v) P := by
  obtain ⟨e1, e2, e3, e4⟩ := a.apart hn
  have hks := a.tr.keys a.nd (a.srt hs)
  have hm := putL_mid (M := M) (v := v) a.ctx.lt a.ctx.gt
  rw [← a.l] at hm
  obtain ⟨nd', g1, g2, g3, g4, g5, g6⟩ := a.tr
  rw [a.nd] at g1
  cases g1
  have hl1 := insI_len (l := nd.keys) k (atI_le nd.keys k)
  have hl2 := insI_len (l := nd.vals) (i := atI nd.keys k) v (by rw [g3]; exact atI_le _ _)
  have ht : Tr rd' h 0 q (putL M k v) PM := ⟨_, h1, rfl, by simp only; omega, by simp only; omega, by rw [g5]; exact (leaf_put g3 hks hk v).symm, g6⟩
  have := a.ctx.plug rd' _ _ (fun i hi => h2 i (by rw [a.p]; simp [hi]) fun e => e1 i hi (e ▸ e4)) (fun i hi => h2 i (by rw [a.p]; simp [hi]) fun e => e2 i hi (e ▸ e4)) ht (by
    rcases a.occ with e | e
    · left; rw [nk_eq h1]; rw [nk_eq a.nd] at e; simp only; omega
    · exact .inr e)
  rw [hm, a.p]
  exact this
theorem Tr.free (t : Tr rd h d q M PM) (hn : rd q = some nd) (hk : ∀ x ∈ M, x.1 ≠ k) : nd.keys.contains k = false := by
  have hsub : nd.vals.length = nd.keys.length ∧ nd.kvs.Sublist M := by
    cases d with
    | zero => obtain ⟨nd', h1, h2, h3, h4, rfl, h6⟩ := t; rw [hn] at h1; cases h1; exact ⟨h3, List.Sublist.refl _⟩
    | succ d => obtain ⟨nd', P', h1, h2, h3, h4, h5, h6⟩ := t; rw [hn] at h1; cases h1; exact ⟨h2, h5.sub⟩
  cases hc : nd.keys.contains k with
  | false => rfl
  | true =>
    rw [List.contains_iff_mem, ← kvs_keys hsub.1] at hc
    obtain ⟨x, hx, rfl⟩ := List.mem_map.1 hc
    exact absurd rfl (hk x (hsub.2.subset hx))
/-- The child on the way is split. -/
theorem WayAt.split (a : WayAt rd h D root k L P (d + 1) q nd A M B P1 PM P2) (hn : P.Nodup) (hh : 2 ≤ h) {i c : Nat} (hi : nd.kids[i]? = some c) (hc : rd c = some kd) (hf : kd.keys.length = 2 * h - 1) (hnf : nd.keys.length + 1 ≤ 2 * h - 1) (hr : r ∉ P) :
    ∃ k0 v0, kd.keys[h - 1]? = some k0 ∧ kd.vals[h - 1]? = some v0 ∧ ∀ rd', rd' c = some (kd.lo h) → rd' r = some (kd.hi h) → rd' q = some (nd.ins i k0 v0 r) → (∀ j ∈ P, j ≠ c → j ≠ q → rd' j = rd j) →
      ∃ P' PM', WayAt rd' h D root k L P' (d + 1) q (nd.ins i k0 v0 r) A M B P1 PM' P2 ∧ P'.Perm (r :: P) := by
  obtain ⟨e1, e2, e3, e4⟩ := a.apart hn
  obtain ⟨nd', P0, g1, g2, g3, g4, g5, rfl⟩ := a.tr
  rw [a.nd] at g1
  cases g1
  have hq := List.nodup_cons.1 e3
  have hcl := g5.len
  rw [kvs_len g2] at hcl
  have hil := (List.getElem?_eq_some_iff.1 hi).1
  have hcP : c ∈ P0 := by
    obtain ⟨M', Q, t1, t2⟩ := g5.mem (List.mem_of_getElem? hi)
    exact t2 c t1.1.root_mem
  have hr0 : r ∉ P0 := fun e => hr (by rw [a.p]; simp [e])
  obtain ⟨k0, hk0⟩ : ∃ k0, kd.keys[h - 1]? = some k0 := ⟨_, List.getElem?_eq_getElem (by omega)⟩
  have hkv : kd.vals.length = kd.keys.length := by
    obtain ⟨M', Q, t1, t2⟩ := g5.mem (List.mem_of_getElem? hi)
    obtain ⟨n', u1, u2, -⟩ := t1.1.node
    rw [hc] at u1; cases u1; exact u2
  obtain ⟨v0, hv0⟩ : ∃ v0, kd.vals[h - 1]? = some v0 := ⟨_, List.getElem?_eq_getElem (by omega)⟩
  refine ⟨k0, v0, hk0, hv0, fun rd' f1 f2 f3 f4 => ?_⟩
  have g5' : Fr (Tc rd h d) nd.kids nd.kvs M P0 := g5
  obtain ⟨k1, v1, P', t1, t2, t3, t4⟩ := Fr.split (rd' := rd') (r := r) g5' g2 hi hc hh hf hq.2 hr0 f1 f2 fun j hj hjc => f4 j (by rw [a.p]; simp [hj]) hjc fun e => hq.1 (e ▸ hj)
  rw [hk0] at t1; cases t1
  rw [hv0] at t2; cases t2
  have l1 := insI_len (l := nd.keys) (i := i) k0 (by omega)
  have l2 := insI_len (l := nd.vals) (i := i) v0 (by omega)
  have hP1 : ∀ j ∈ P1, rd' j = rd j := fun j hj => f4 j (by rw [a.p]; simp [hj]) (fun e => e1 j hj (e ▸ List.mem_cons_of_mem _ hcP)) fun e => e1 j hj (e ▸ e4)
  have hP2 : ∀ j ∈ P2, rd' j = rd j := fun j hj => f4 j (by rw [a.p]; simp [hj]) (fun e => e2 j hj (e ▸ List.mem_cons_of_mem _ hcP)) fun e => e2 j hj (e ▸ e4)
  have htr : Tr rd' h (d + 1) q M (q :: P') := ⟨_, P', f3, by simp only [Nd.ins]; omega, by simp only [Nd.ins]; omega, by simp only [Nd.ins]; omega, t3, rfl⟩
  refine ⟨P1 ++ (q :: P') ++ P2, q :: P', ⟨f3, a.ctx.frame hP1 hP2, htr, ?_, a.l, rfl⟩, ?_⟩
  · rcases a.occ with e | e
    · left; rw [nk_eq f3]; rw [nk_eq a.nd] at e; simp only [Nd.ins]; omega
    · exact .inr e
  · rw [a.p]
    have s1 : (P1 ++ (q :: P') ++ P2).Perm (P1 ++ (q :: r :: P0) ++ P2) := ((t4.cons q).append_left P1).append_right P2
    refine s1.trans ?_
    have s2 := List.perm_middle (l₁ := P1 ++ [q]) (a := r) (l₂ := P0 ++ P2)
    simpa using s2
/-- A full root gets one above it, on its own page; what it held lies at c then, and at r. -/
theorem Tr.grow {c : Nat} (t : Tr rd h D root L P) (hn : P.Nodup) (hh : 2 ≤ h) (hc : rd root = some kd) (hf : kd.keys.length = 2 * h - 1) (hcP : c ∉ P) (hrP : r ∉ P) (hcr : c ≠ r) :
    ∃ k0 v0, kd.keys[h - 1]? = some k0 ∧ kd.vals[h - 1]? = some v0 ∧ ∀ rd', rd' c = some (kd.lo h) → rd' r = some (kd.hi h) → rd' root = some (Nd.ins ⟨[], [], [c]⟩ 0 k0 v0 r) → (∀ j ∈ P, j ≠ root → rd' j = rd j) →
      ∃ P', Tr rd' h (D + 1) root L P' ∧ P'.Perm (r :: c :: P) := by
  obtain ⟨rd0, hrd0⟩ : ∃ f : Nat → Option Nd, f = fun j => if j = c then some kd else rd j := ⟨_, rfl⟩
  have r0 : rd0 c = some kd := by rw [hrd0]; simp
  have r1 : ∀ j, j ≠ c → rd0 j = rd j := fun j hj => by rw [hrd0]; simp [hj]
  obtain ⟨P0, hP0, t0⟩ : ∃ P0, P = root :: P0 ∧ Tr rd0 h D c L (c :: P0) := by
    cases D with
    | zero =>
      obtain ⟨nd', g1, g2, g3, g4, g5, rfl⟩ := t
      rw [hc] at g1
      cases g1
      exact ⟨[], rfl, kd, r0, g2, g3, g4, g5, rfl⟩
    | succ D =>
      obtain ⟨nd', P', g1, g2, g3, g4, g5, rfl⟩ := t
      rw [hc] at g1
      cases g1
      exact ⟨P', rfl, kd, P', r0, g2, g3, g4, g5.mono fun e M Q he hQ => Tc.frame he fun i hi => r1 i fun e => hcP (e ▸ List.mem_cons_of_mem _ (hQ i hi)), rfl⟩
  subst hP0
  have hq := List.nodup_cons.1 hn
  have hcr0 : c ≠ root := fun e => hcP (by simp [e])
  have f : Fr (Tc rd0 h D) (Nd.kids ⟨[], [], [c]⟩) (Nd.kvs ⟨[], [], [c]⟩) L (c :: P0) := Fr.one ⟨t0, by rw [nk_eq r0]; omega⟩
  have hk : kd.vals.length = kd.keys.length := by
    obtain ⟨n', u1, u2, -⟩ := t.node
    rw [hc] at u1; cases u1; exact u2
  obtain ⟨k0, hk0⟩ : ∃ k0, kd.keys[h - 1]? = some k0 := ⟨_, List.getElem?_eq_getElem (by omega)⟩
  obtain ⟨v0, hv0⟩ : ∃ v0, kd.vals[h - 1]? = some v0 := ⟨_, List.getElem?_eq_getElem (by omega)⟩
  refine ⟨k0, v0, hk0, hv0, fun rd' f1 f2 f3 f4 => ?_⟩
  have hcP0 : c ∉ P0 := fun e => hcP (List.mem_cons_of_mem _ e)
  have hrP0 : r ∉ P0 := fun e => hrP (List.mem_cons_of_mem _ e)
  obtain ⟨k1, v1, P', t1, t2, t3, t4⟩ := Fr.split (nd := ⟨[], [], [c]⟩) (i := 0) (q := c) (rd' := rd') (r := r) f rfl rfl r0 hh hf (List.nodup_cons.2 ⟨hcP0, hq.2⟩) (by simp; exact ⟨fun e => hcr e.symm, hrP0⟩) f1 f2 fun j hj hjc => by
    rcases List.mem_cons.1 hj with e | e
    · exact absurd e hjc
    · rw [r1 j hjc]
      exact f4 j (List.mem_cons_of_mem _ e) fun e2 => hq.1 (e2 ▸ e)
  rw [hk0] at t1; cases t1
  rw [hv0] at t2; cases t2
  refine ⟨root :: P', ⟨_, P', f3, rfl, by simp [Nd.ins, insI]; omega, by simp [Nd.ins, insI], t3, rfl⟩, ?_⟩
  have s1 : (root :: P').Perm (root :: r :: c :: P0) := t4.cons root
  refine s1.trans ?_
  have s2 := List.perm_middle (l₁ := [r, c]) (a := root) (l₂ := P0)
  have s3 : (root :: r :: c :: P0).Perm (r :: c :: root :: P0) := by simpa using s2.symm
  exact s3
/-- How deep a tree is at most. -/
theorem Fr.two {R : Nat → List KV → List Nat → Prop} {ks : List Nat} {kv M : List KV} {Q : List Nat} {n : Nat} (f : Fr R ks kv M Q) (hk : 1 ≤ kv.length) (hR : ∀ q M P, R q M P → n ≤ M.length) : 2 * n + 1 ≤ M.length := by
  have hall : ∀ {ks kv M Q}, Fr R ks kv M Q → n ≤ M.length := by
    intro ks kv M Q f
    cases f with
    | one h1 => exact hR _ _ _ h1
    | cons h1 h2 => have := hR _ _ _ h1; simp; omega
  cases f with
  | one h1 => simp at hk
  | cons h1 h2 => have := hR _ _ _ h1; have := hall h2; simp; omega
theorem Tc.deep (hh : 2 ≤ h) : ∀ {d q L P}, Tc rd h d q L P → 2 ^ (d + 1) ≤ L.length + 1
  | 0, q, L, P, ⟨⟨nd, h1, h2, h3, h4, h5, h6⟩, h7⟩ => by
    subst h5
    rw [nk_eq h1] at h7
    rw [kvs_len h3]
    simp only [Nat.zero_add, Nat.pow_one]
    omega
  | d + 1, q, L, P, ⟨⟨nd, P', h1, h2, h3, h4, h5, h6⟩, h7⟩ => by
    have := h5.two (n := 2 ^ (d + 1) - 1) (by rw [kvs_len h2]; exact h4) fun c M Q hc => by have := Tc.deep hh hc; omega
    have hp : 0 < 2 ^ (d + 1) := Nat.pow_pos (by omega)
    rw [Nat.pow_succ]
    omega
theorem Tr.deep (hh : 2 ≤ h) (t : Tr rd h d q L P) : d = 0 ∨ 2 ^ (d + 1) ≤ L.length + 1 := by
  cases d with
  | zero => exact .inl rfl
  | succ d =>
    obtain ⟨nd, P', h1, h2, h3, h4, h5, h6⟩ := t
    have := h5.two (n := 2 ^ (d + 1) - 1) (by rw [kvs_len h2]; exact h4) fun c M Q hc => by have := Tc.deep hh hc; omega
    have hp : 0 < 2 ^ (d + 1) := Nat.pow_pos (by omega)
    right
    rw [Nat.pow_succ]
    omega
end
end Go.Proofs.YtpkkcicaeldodaaGreatDoor

/- The tree (plain): a tree on a pager's pages; what a value that is set, a split on the way, a grown root leave of it. -/
namespace Go.Proofs.YtpkkcicaeldodaaGreatDoor

theorem Fr.pg {R : Nat → List KV → List Nat → Prop} {ks : List Nat} {kv L : List KV} {P : List Nat} (h : Fr R ks kv L P) {i : Nat} (hi : i ∈ P) : ∃ q M Q, R q M Q ∧ i ∈ Q := by
  induction h with
  | one h1 => exact ⟨_, _, _, h1, hi⟩
  | cons h1 _ ih =>
    rcases List.mem_append.1 hi with e | e
    · exact ⟨_, _, _, h1, e⟩
    · exact ih e
theorem Tr.all {rd : Nat → Option Nd} {h : Nat} : ∀ {d q : Nat} {L : List KV} {P : List Nat}, Tr rd h d q L P → ∀ i ∈ P, ∃ nd, rd i = some nd
  | 0, q, L, P, ⟨nd, h1, _, _, _, _, h6⟩, i, hi => by
    subst h6
    rw [List.mem_singleton] at hi
    exact ⟨nd, hi ▸ h1⟩
  | d + 1, q, L, P, ⟨nd, P', h1, _, _, _, h5, h6⟩, i, hi => by
    subst h6
    rcases List.mem_cons.1 hi with e | e
    · exact ⟨nd, e ▸ h1⟩
    · obtain ⟨c, M, Q, g1, g2⟩ := h5.pg e
      exact Tr.all g1.1 i g2
/-- A tree stands on the pages, and nothing else. -/
structure TS (x : Rp) (D root : Nat) (L : List KV) (P : List Nat) : Prop where
  tr : Tr x.nd (halfN x.sz) D root L P
  nd : P.Nodup
  srt : Srt L
  used : x.now.countP Pk.used = P.length
theorem TS.pgs {x : Rp} {D root : Nat} {L : List KV} {P : List Nat} (h : TS x D root L P) : ∀ i ∈ P, ∃ c, x.now[i]? = some c ∧ c.used = true := fun i hi => by
  obtain ⟨nd, h1⟩ := h.tr.all i hi
  obtain ⟨c, h2, h3, -⟩ := Rp.nd_some h1
  exact ⟨c, h2, h3⟩
theorem TS.new {x : Rp} {D root r : Nat} {L : List KV} {P : List Nat} (h : TS x D root L P) (hr : x.now[r]? = some .no) : r ∉ P := fun hi => by
  obtain ⟨c, h2, h3⟩ := h.pgs r hi
  rw [hr] at h2
  cases h2
  cases h3
theorem putL_srt {L : List KV} (hs : Srt L) (k v : Int) : Srt (putL L k v) := by
  unfold putL
  refine srt_app.2 ⟨hs.sub List.filter_sublist, List.pairwise_cons.2 ⟨fun x hx => ?_, hs.sub List.filter_sublist⟩, fun a ha b hb => ?_⟩
  · have := (List.mem_filter.1 hx).2; simpa using this
  · have h1 := (List.mem_filter.1 ha).2
    simp at h1
    rcases List.mem_cons.1 hb with e | e
    · subst e; exact h1
    · have h2 := (List.mem_filter.1 e).2
      simp at h2
      omega
theorem delL_srt {L : List KV} (hs : Srt L) (k : Int) : Srt (delL L k) := hs.sub List.filter_sublist
theorem filt_le (k : Int) : ∀ (L : List KV), (L.filter fun x => decide (x.1 < k)).length + (L.filter fun x => decide (k < x.1)).length ≤ L.length
  | [] => by simp
  | a :: t => by
    have ih := filt_le k t
    simp only [List.filter_cons, List.length_cons]
    by_cases h1 : a.1 < k
    · have h2 : ¬ k < a.1 := by omega
      simp only [decide_eq_true h1, decide_eq_false h2, if_true, Bool.false_eq_true, if_false, List.length_cons]
      omega
    · by_cases h2 : k < a.1
      · simp only [decide_eq_false h1, decide_eq_true h2, if_true, Bool.false_eq_true, if_false, List.length_cons]
        omega
      · simp only [decide_eq_false h1, decide_eq_false h2, Bool.false_eq_true, if_false]
        omega
theorem putL_le (L : List KV) (k v : Int) : (putL L k v).length ≤ L.length + 1 := by
  have h := filt_le k L
  have e : (putL L k v).length = (L.filter fun x => decide (x.1 < k)).length + ((L.filter fun x => decide (k < x.1)).length + 1) := by
    unfold putL
    rw [List.length_append, List.length_cons]
  omega
section
variable {rd rd' : Nat → Option Nd} {h D root : Nat} {k : Int} {L : List KV} {P : List Nat} {d q r : Nat} {nd kd : Nd} {A M B : List KV} {P1 PM P2 : List Nat}
/-- A key that is there has another value. -/
theorem WayAt.upd (a : WayAt rd h D root k L P d q nd A M B P1 PM P2) (hs : Srt L) (hn : P.Nodup) (hk : nd.keys.contains k = true) {v : Int}
    (h1 : rd' q = some { nd with vals := nd.vals.set (atI nd.keys k) v }) (h2 : ∀ i ∈ P, i ≠ q → rd' i = rd i) : Tr rd' h D root (putL L k v) P := by
  obtain ⟨e1, e2, e3, e4⟩ := a.apart hn
  obtain ⟨v0, g1, g2, g3⟩ := a.tr.here a.nd (a.srt hs) hk e3
  have hm := putL_mid (M := M) (v := v) a.ctx.lt a.ctx.gt
  rw [← a.l] at hm
  have ht := g3 rd' v h1 fun i hi => h2 i (by rw [a.p]; simp [hi])
  have := a.ctx.plug rd' _ _ (fun i hi => h2 i (by rw [a.p]; simp [hi]) fun e => e1 i hi (e ▸ e4)) (fun i hi => h2 i (by rw [a.p]; simp [hi]) fun e => e2 i hi (e ▸ e4)) ht (by
    rcases a.occ with e | e
    · left; rw [nk_eq h1]; rw [nk_eq a.nd] at e; exact e
    · exact .inr e)
  rw [hm, a.p]
  exact this
theorem WayAt.miss (a : WayAt rd h D root k L P d q nd A M B P1 PM P2) (hk : getK L k = none) : nd.keys.contains k = false := by
  refine a.tr.free a.nd fun x hx e => ?_
  have hxL : x ∈ L := by rw [a.l]; simp [hx]
  unfold getK at hk
  rw [Option.map_eq_none_iff, List.find?_eq_none] at hk
  exact hk x hxL (by simpa using e)
theorem atI_ins (l : List Int) (i : Nat) (a k : Int) : atI (insI l i a) k = atI l k + if a < k then 1 else 0 := by
  unfold atI insI
  conv => rhs; rw [← List.take_append_drop i l]
  rw [List.countP_append, List.countP_append, List.countP_cons]
  by_cases h : a < k <;> simp [h] <;> omega
theorem insN_at {l : List Nat} {i r c : Nat} (h : l[i]? = some c) : (insN l (i + 1) r)[i]? = some c ∧ (insN l (i + 1) r)[i + 1]? = some r := by
  have hl := (List.getElem?_eq_some_iff.1 h).1
  unfold insN
  constructor
  · rw [List.getElem?_append_left (by rw [List.length_take]; omega), List.getElem?_take_of_lt (by omega), h]
  · rw [List.getElem?_append_right (by rw [List.length_take]; omega), List.length_take, show i + 1 - min (i + 1) l.length = 0 by omega]
    rfl
/-- Where the way goes on behind a split. -/
theorem ins_kid {kd : Nd} {k0 v0 : Int} {c : Nat} (hi : nd.kids[atI nd.keys k]? = some c) {e : Nat} (he : (nd.ins (atI nd.keys k) k0 v0 r).kids[atI (nd.ins (atI nd.keys k) k0 v0 r).keys k]? = some e) : e = c ∨ e = r := by
  have h1 := insN_at (r := r) hi
  simp only [Nd.ins] at he
  rw [atI_ins] at he
  split at he
  · rw [h1.2] at he; cases he; exact .inr rfl
  · have he2 : (insN nd.kids (atI nd.keys k + 1) r)[atI nd.keys k]? = some e := he
    rw [h1.1] at he2; cases he2; exact .inl rfl
theorem Nd.lo_fit {sz h : Nat} (f : kd.Fit sz) (hh : 1 ≤ h) (hf : kd.keys.length = 2 * h - 1) : (kd.lo h).Fit sz := by
  have hv := f.vals
  have hm := f.most
  refine ⟨by simp [Nd.lo, hv], by simp [Nd.lo]; omega, ?_, fun k hk => f.ki k (List.mem_of_mem_take hk), fun k hk => f.vi k (List.mem_of_mem_take hk), fun k hk => f.ci k (List.mem_of_mem_take hk)⟩
  rcases f.kids with e | e
  · left; simp [Nd.lo, e]
  · right; simp [Nd.lo, e]; omega
theorem Nd.hi_fit {sz h : Nat} (f : kd.Fit sz) (hh : 1 ≤ h) (hf : kd.keys.length = 2 * h - 1) : (kd.hi h).Fit sz := by
  have hv := f.vals
  have hm := f.most
  refine ⟨by simp [Nd.hi, hv], by simp [Nd.hi]; omega, ?_, fun k hk => f.ki k (List.mem_of_mem_drop hk), fun k hk => f.vi k (List.mem_of_mem_drop hk), fun k hk => f.ci k (List.mem_of_mem_drop hk)⟩
  rcases f.kids with e | e
  · left; simp [Nd.hi, e]
  · right; simp [Nd.hi, e]; omega
theorem insI_mem {l : List Int} {i : Nat} {a b : Int} (h : b ∈ insI l i a) : b = a ∨ b ∈ l := by
  unfold insI at h
  rcases List.mem_append.1 h with e | e
  · exact .inr (List.mem_of_mem_take e)
  · rcases List.mem_cons.1 e with e | e
    · exact .inl e
    · exact .inr (List.mem_of_mem_drop e)
theorem insN_mem {l : List Nat} {i a b : Nat} (h : b ∈ insN l i a) : b = a ∨ b ∈ l := by
  unfold insN at h
  rcases List.mem_append.1 h with e | e
  · exact .inr (List.mem_of_mem_take e)
  · rcases List.mem_cons.1 e with e | e
    · exact .inl e
    · exact .inr (List.mem_of_mem_drop e)
theorem insN_len {l : List Nat} {i : Nat} (a : Nat) (h : i ≤ l.length) : (insN l i a).length = l.length + 1 := by simp [insN]; omega
theorem Nd.ins_fit {sz i : Nat} {k0 v0 : Int} (hv : nd.vals.length = nd.keys.length) (hc : nd.kids.length = nd.keys.length + 1) (hki : ∀ k ∈ nd.keys, i64 k) (hvi : ∀ k ∈ nd.vals, i64 k) (hci : ∀ c ∈ nd.kids, c < 65536) (hm : nd.keys.length + 1 ≤ mostN sz) (hi : i ≤ nd.keys.length) (hk0 : i64 k0) (hv0 : i64 v0) (hr : r < 65536) : (nd.ins i k0 v0 r).Fit sz := by
  have l1 := insI_len (l := nd.keys) (i := i) k0 hi
  have l2 := insI_len (l := nd.vals) (i := i) v0 (by omega)
  have l3 := insN_len (l := nd.kids) (i := i + 1) r (by omega)
  exact ⟨by simp only [Nd.ins]; omega, by simp only [Nd.ins]; omega, .inr (by simp only [Nd.ins]; omega), fun k hk => (insI_mem hk).elim (fun e => e ▸ hk0) (hki k), fun k hk => (insI_mem hk).elim (fun e => e ▸ hv0) (hvi k), fun k hk => (insN_mem hk).elim (fun e => e ▸ hr) (hci k)⟩
end
/-- What a split writes. -/
def Rp.splitP (x : Rp) (r qk qn : Nat) (hi lo pn : Nd) : Rp := (((x.put r .zero).put r (.new (ndL hi x.sz))).put qk (.new (ndL lo x.sz))).put qn (.new (ndL pn x.sz))
section
variable {x : Rp} {r qk qn : Nat} {hi lo pn : Nd}
theorem Rp.splitP_like : x.like (x.splitP r qk qn hi lo pn) := ((x.put_like _ _).trans ((Rp.put_like _ _ _).trans (Rp.put_like _ _ _))).trans (Rp.put_like _ _ _)
theorem Rp.splitP_nd (hr : r < x.now.length) (hk : qk < x.now.length) (hn : qn < x.now.length) (h1 : hi.Fit x.sz) (h2 : lo.Fit x.sz) (h3 : pn.Fit x.sz) (hz : x.sz ≤ 4096) (e1 : r ≠ qk) (e2 : r ≠ qn) (e3 : qk ≠ qn) :
    (x.splitP r qk qn hi lo pn).nd r = some hi ∧ (x.splitP r qk qn hi lo pn).nd qk = some lo ∧ (x.splitP r qk qn hi lo pn).nd qn = some pn ∧ ∀ i, i ≠ r → i ≠ qk → i ≠ qn → (x.splitP r qk qn hi lo pn).nd i = x.nd i := by
  unfold Rp.splitP
  refine ⟨?_, ?_, ?_, fun i i1 i2 i3 => ?_⟩
  · rw [Rp.nd_other e2, Rp.nd_other e1]
    exact Rp.nd_new (x := x.put r .zero) h1 (by rw [Rp.put_len]; exact hr) hz
  · rw [Rp.nd_other e3]
    exact Rp.nd_new (x := (x.put r .zero).put r (.new (ndL hi x.sz))) h2 (by rw [Rp.put_len, Rp.put_len]; exact hk) hz
  · exact Rp.nd_new (x := ((x.put r .zero).put r (.new (ndL hi x.sz))).put qk (.new (ndL lo x.sz))) h3 (by rw [Rp.put_len, Rp.put_len, Rp.put_len]; exact hn) hz
  · rw [Rp.nd_other i3, Rp.nd_other i2, Rp.nd_other i1, Rp.nd_other i1]
theorem Rp.put_usedU {x : Rp} {q : Nat} {c c0 : Pk} (h : x.now[q]? = some c0) (h0 : c0.used = true) (h1 : c.used = true) : (x.put q c).now.countP Pk.used = x.now.countP Pk.used := by
  have := Rp.put_used (c := c) h
  rw [h0, h1] at this
  simp at this
  exact this
theorem Rp.put_usedN {x : Rp} {q : Nat} {c : Pk} (h : x.now[q]? = some .no) (h1 : c.used = true) : (x.put q c).now.countP Pk.used = x.now.countP Pk.used + 1 := by
  have := Rp.put_used (c := c) h
  rw [h1] at this
  simp [Pk.used] at this
  exact this
theorem Rp.put_same {x : Rp} {q i : Nat} {c c0 : Pk} (h : x.now[i]? = some c0) (h0 : c0.used = true) (h1 : c.used = true) : ∃ c', (x.put q c).now[i]? = some c' ∧ c'.used = true := by
  by_cases e : i = q
  · subst e
    exact ⟨c, by rw [Rp.put_at (List.getElem?_eq_some_iff.1 h).1, if_pos rfl], h1⟩
  · refine ⟨c0, ?_, h0⟩
    unfold Rp.put
    simp only
    rw [List.getElem?_set_ne (Ne.symm e)]
    exact h
theorem Rp.splitP_used {ck cn : Pk} (hr : x.now[r]? = some .no) (hk : x.now[qk]? = some ck) (hk2 : ck.used = true) (hn : x.now[qn]? = some cn) (hn2 : cn.used = true) : (x.splitP r qk qn hi lo pn).now.countP Pk.used = x.now.countP Pk.used + 1 := by
  have u1 := Rp.put_usedN (c := .zero) hr rfl
  have l1 := (List.getElem?_eq_some_iff.1 hr).1
  have r1 : (x.put r .zero).now[r]? = some .zero := by rw [Rp.put_at l1, if_pos rfl]
  have u2 := Rp.put_usedU (c := .new (ndL hi x.sz)) r1 rfl rfl
  obtain ⟨c1, k1, k1u⟩ := Rp.put_same (q := r) (c := .zero) hk hk2 rfl
  obtain ⟨c2, k2, k2u⟩ := Rp.put_same (q := r) (c := .new (ndL hi x.sz)) k1 k1u rfl
  obtain ⟨c3, n1, n1u⟩ := Rp.put_same (q := r) (c := .zero) hn hn2 rfl
  obtain ⟨c4, n2, n2u⟩ := Rp.put_same (q := r) (c := .new (ndL hi x.sz)) n1 n1u rfl
  have u3 := Rp.put_usedU (c := .new (ndL lo x.sz)) k2 k2u rfl
  obtain ⟨c5, n3, n3u⟩ := Rp.put_same (q := qk) (c := .new (ndL lo x.sz)) n2 n2u rfl
  have u4 := Rp.put_usedU (c := .new (ndL pn x.sz)) n3 n3u rfl
  unfold Rp.splitP
  omega
end
end Go.Proofs.YtpkkcicaeldodaaGreatDoor

/- The tree (plain): the pairs from a key on, and how a walk comes to them. -/
namespace Go.Proofs.YtpkkcicaeldodaaGreatDoor

/-- The pairs from a key on. -/
def geL (L : List KV) (k : Int) : List KV := L.filter fun x => decide (k ≤ x.1)
theorem geL_app (A B : List KV) (k : Int) : geL (A ++ B) k = geL A k ++ geL B k := List.filter_append ..
theorem geL_none {A : List KV} {k : Int} (h : ∀ x ∈ A, x.1 < k) : geL A k = [] := filter_none fun a ha => by have := h a ha; simp; omega
theorem geL_all {A : List KV} {k : Int} (h : ∀ x ∈ A, k ≤ x.1) : geL A k = A := filter_all fun a ha => by simpa using h a ha
theorem geL_cons {B : List KV} {k : Int} {x : KV} (h : k ≤ x.1) : geL (x :: B) k = x :: geL B k := by simp [geL, h]
theorem drop_app {α : Type} {G X R : List α} {k : Nat} (h : G.drop k = X ++ R) : G.drop (k + X.length) = R := by rw [← List.drop_drop, h, List.drop_left]
theorem drop_cons' {α : Type} {G R : List α} {a : α} {k : Nat} (h : G.drop k = a :: R) : G[k]? = some a ∧ G.drop (k + 1) = R := by
  refine ⟨?_, drop_app (X := [a]) h⟩
  have : (G.drop k)[0]? = some a := by rw [h]; rfl
  rwa [List.getElem?_drop, Nat.add_zero] at this
/-- What a walk has still to come to, in a node. -/
def Rest (rd : Nat → Option Nd) (h d : Nat) (nd : Nd) (i : Nat) (L : List KV) (P : List Nat) : Prop :=
  (i ≤ nd.keys.length ∧ (d = 0 → L = nd.kvs.drop i ∧ P = []) ∧ ∀ d', d = d' + 1 → Fr (Tc rd h d') (nd.kids.drop i) (nd.kvs.drop i) L P) ∨ (i = nd.keys.length + 1 ∧ L = [] ∧ P = [])
section
variable {rd : Nat → Option Nd} {h d q : Nat} {nd : Nd} {M L : List KV} {P PM : List Nat} {k : Int} {i : Nat}
theorem Rest.start (t : Tr rd h d q M PM) (hn : rd q = some nd) (hs : Srt M) : ∃ A L P, M = A ++ L ∧ (∀ x ∈ A, x.1 < k) ∧ P.length + 1 ≤ PM.length ∧ Rest rd h d nd (atI nd.keys k) L P ∧ (∀ x ∈ nd.kvs.drop (atI nd.keys k), k ≤ x.1) := by
  have hks := t.keys hn hs
  have hsp := atI_split nd.keys k hks
  cases d with
  | zero =>
    obtain ⟨nd', g1, g2, g3, g4, rfl, rfl⟩ := t
    rw [hn] at g1
    cases g1
    refine ⟨nd.kvs.take (atI nd.keys k), nd.kvs.drop (atI nd.keys k), [], (List.take_append_drop _ _).symm, fst_mem (kvs_take g3 _) hsp.1, by simp, .inl ⟨atI_le _ _, fun _ => ⟨rfl, rfl⟩, fun d' e => by omega⟩, fst_mem (kvs_drop g3 _) hsp.2⟩
  | succ d =>
    obtain ⟨nd', P', g1, g2, g3, g4, g5, rfl⟩ := t
    rw [hn] at g1
    cases g1
    have hcl := g5.len
    rw [kvs_len g2] at hcl
    have hil := atI_le nd.keys k
    have f := g5
    rw [← List.take_append_drop (atI nd.keys k) nd.kids, ← List.take_append_drop (atI nd.keys k) nd.kvs] at f
    obtain ⟨A, PA, L, PL, k1, k2, rfl, rfl⟩ := f.cutl (by rw [List.length_take, List.length_take, kvs_len g2]; omega)
    refine ⟨A, L, PL, rfl, ?_, by simp, .inl ⟨hil, fun e => by omega, fun d' e => by cases e; exact k2⟩, fst_mem (kvs_drop g2 _) hsp.2⟩
    exact (Fr.sides (M := L) (B := []) (PB := []) k1 Suf.nil (by simpa using hs) (fst_mem (kvs_take g2 _) hsp.1)).1
theorem kvs_drop_at (hv : nd.vals.length = nd.keys.length) (hi : i < nd.keys.length) : ∃ a b, nd.keys[i]? = some a ∧ nd.vals[i]? = some b ∧ nd.kvs.drop i = (a, b) :: nd.kvs.drop (i + 1) := by
  obtain ⟨a, ha⟩ : ∃ a, nd.keys[i]? = some a := ⟨_, List.getElem?_eq_getElem hi⟩
  obtain ⟨b, hb⟩ : ∃ b, nd.vals[i]? = some b := ⟨_, List.getElem?_eq_getElem (by omega)⟩
  refine ⟨a, b, ha, hb, ?_⟩
  obtain ⟨hl, he⟩ := List.getElem?_eq_some_iff.1 (kvs_at hv ha hb)
  rw [List.drop_eq_getElem_cons hl, he]
/-- A leaf's next pair. -/
theorem Rest.leaf (r : Rest rd h 0 nd i L P) (hv : nd.vals.length = nd.keys.length) (hi : i < nd.keys.length) : ∃ a b L', nd.keys[i]? = some a ∧ nd.vals[i]? = some b ∧ (a, b) ∈ nd.kvs.drop i ∧ L = (a, b) :: L' ∧ Rest rd h 0 nd (i + 1) L' P := by
  obtain ⟨a, b, h1, h2, h3⟩ := kvs_drop_at hv hi
  rcases r with ⟨-, g, -⟩ | ⟨e, -⟩
  · obtain ⟨rfl, rfl⟩ := g rfl
    exact ⟨a, b, _, h1, h2, by rw [h3]; exact List.mem_cons_self, h3, .inl ⟨hi, fun _ => ⟨rfl, rfl⟩, fun d' e => by omega⟩⟩
  · omega
theorem Rest.leaf_end (r : Rest rd h 0 nd nd.keys.length L P) (hv : nd.vals.length = nd.keys.length) : L = [] ∧ Rest rd h 0 nd (nd.keys.length + 1) [] [] := by
  rcases r with ⟨-, g, -⟩ | ⟨e, -⟩
  · obtain ⟨rfl, rfl⟩ := g rfl
    exact ⟨List.drop_eq_nil_of_le (by rw [kvs_len hv]; omega), .inr ⟨rfl, rfl, rfl⟩⟩
  · omega
/-- The next child, and the pair behind it. -/
theorem Rest.inner (r : Rest rd h (d + 1) nd i L P) (hv : nd.vals.length = nd.keys.length) (hc : nd.kids.length = nd.keys.length + 1) (hi : i < nd.keys.length) : ∃ c M Q a b L' P', nd.kids[i]? = some c ∧ Tc rd h d c M Q ∧ nd.keys[i]? = some a ∧ nd.vals[i]? = some b ∧ (a, b) ∈ nd.kvs.drop i ∧ L = M ++ (a, b) :: L' ∧ P = Q ++ P' ∧ Rest rd h (d + 1) nd (i + 1) L' P' := by
  obtain ⟨a, b, h1, h2, h3⟩ := kvs_drop_at hv hi
  rcases r with ⟨-, -, g⟩ | ⟨e, -⟩
  · have f := g d rfl
    have hcl : i < nd.kids.length := by omega
    rw [List.drop_eq_getElem_cons hcl, h3] at f
    obtain ⟨M, Q, L', P', k1, k2, rfl, rfl⟩ := f.inv
    exact ⟨nd.kids[i], M, Q, a, b, L', P', List.getElem?_eq_getElem hcl, k1, h1, h2, by rw [h3]; exact List.mem_cons_self, rfl, rfl, .inl ⟨hi, fun e => by omega, fun d' e => by cases e; exact k2⟩⟩
  · omega
theorem Rest.inner_end (r : Rest rd h (d + 1) nd nd.keys.length L P) (hv : nd.vals.length = nd.keys.length) (hc : nd.kids.length = nd.keys.length + 1) : ∃ c, nd.kids[nd.keys.length]? = some c ∧ Tc rd h d c L P ∧ Rest rd h (d + 1) nd (nd.keys.length + 1) [] [] := by
  rcases r with ⟨-, -, g⟩ | ⟨e, -⟩
  · have f := g d rfl
    have hcl : nd.keys.length < nd.kids.length := by omega
    rw [List.drop_eq_getElem_cons hcl, show nd.kvs.drop nd.keys.length = [] from List.drop_eq_nil_of_le (by rw [kvs_len hv]; exact Nat.le_refl _), show nd.kids.drop (nd.keys.length + 1) = [] from List.drop_eq_nil_of_le (by omega)] at f
    generalize hK : [nd.kids[nd.keys.length]] = K at f
    generalize hV : ([] : List KV) = V at f
    cases f with
    | one h1 => cases hK; exact ⟨_, List.getElem?_eq_getElem hcl, h1, .inr ⟨rfl, rfl, rfl⟩⟩
    | cons h1 h2 => cases hV
  · omega
end
end Go.Proofs.YtpkkcicaeldodaaGreatDoor

/- The tree: slices.Clone of numbers that read; all. -/
namespace Go.Proofs.YtpkkcicaeldodaaGreatDoor
open Go.RowKit Go.Maps

theorem Sl.cut {w : World} {g off n : Nat} {xs : List Value} (h : Sl w 1 (some ⟨g, off, none⟩) n xs) (i m : Nat) (him : i + m ≤ n) : Sl w 1 (some ⟨g, off + i, none⟩) m ((xs.drop i).take m) := by
  have hx := h.1
  refine ⟨by rw [List.length_take, List.length_drop]; omega, fun hm => ?_⟩
  obtain ⟨b, o, e, hb, hc⟩ := h.2 (by omega)
  cases e
  refine ⟨g, off + i, rfl, hb, fun j u hu => ?_⟩
  rw [List.getElem?_take] at hu
  split at hu
  · rw [List.getElem?_drop] at hu
    rw [Nat.add_assoc]
    exact hc _ u hu
  · cases hu

set_option maxHeartbeats 800000 in
theorem bclone_int (g off n c : Nat) (xs : List Value) (w : World) (hs : Sl w 1 (some ⟨g, off, none⟩) n xs) (h1 : ∀ u ∈ xs, u.oneCell' = true) (hn : n ≤ 1000000) (hn0 : 0 < n) :
    Calls Tryz.prog 68 #[.slice (some ⟨g, off, none⟩) n c] w fun e w' => OwnOut w w' 3 1 n xs (fun A c => .slice A n c) e := by
  obtain ⟨i0, hi0, hz0, hz1, hz2⟩ := info_parts i64Info_
  have hsl := fun (w : World) => Lib.run_eql_slice_nil (P := Tryz.prog) w 22 3 (some ⟨g, off, none⟩) n c 0 0 Tryz.underlying22
  have H := Lib.hid hs
  have hxl : xs.length = n := by have := hs.1; omega
  clear hs
  go_enter Tryz.func68, Tryz.ntmps68
  go_wp2_with (at_builtin; refine wpList_append_own _ rfl _ _ _ rfl w.heap.size 3 i0 _ 1 8 Tryz.underlying22 hi0 hz0 hz1 hz2 rfl (by omega) (.slice (some ⟨w.heap.size, 0, none⟩) 0 0) 0 [] rfl (World.ownsRow_lit w #[] 0 (Nat.le_refl _) (by simp [maxLen]) (by simp)) ⟨g, off, none⟩ n c xs rfl (by rw [Nat.mul_one]; exact hxl) (fun j u hu => by obtain ⟨b, o, e, hb, hx⟩ := (H.out.grew ((Chg.refl _ _).alloc (.cells #[] 3))).2 (by omega); cases e; rw [Addr.add_lit]; exact hx j u hu) h1 (by simp only [maxLen]; omega) (by omega) (by simp) ?_; intro v1 w1 hown1 hgrow hnil; have HO := Lib.hid hown1; have HG := Lib.hid hgrow; clear hown1 hgrow hnil)
  go_ret
  obtain ⟨A', c', rfl, -⟩ := own_shape HO.out
  refine OwnOut.mk A' c' ?_ ?_ ?_
  · have := HO.out; simp
  · simpa using HO.out
  · exact ((Chg.refl NoF w).alloc _).grown HG.out (fun k hk hlt => by simp [Value.ownBlock] at hk; omega)

/-- A node to be saved: its block, its page, what it is. -/
structure SvIt where
  b : Nat
  N : Nat → Prop
  q : Nat
  nd : Nd
def putAll (x : Rp) : List SvIt → Rp
  | [] => x
  | it :: r => putAll (x.put it.q (.new (ndL it.nd x.sz))) r
/-- The disk is full, m pages more taken at most. -/
def Full (w w' : World) (t p root : Nat) (F : Nat → Prop) (x : Rp) (m : Nat) : Prop :=
  ∃ z, BTTo w w' t p root F z ∧ x.like z ∧ z.now.countP Pk.used ≤ x.now.countP Pk.used + m ∧ ¬ (1 ≤ z.slack ∧ Pk.no ∈ z.now)
theorem putAll_like : ∀ (its : List SvIt) (x : Rp), x.like (putAll x its)
  | [], x => .refl x
  | it :: r, x => (x.put_like _ _).trans (putAll_like r _)
theorem putAll_snoc : ∀ (its : List SvIt) (x : Rp) (it : SvIt), putAll x (its ++ [it]) = (putAll x its).put it.q (.new (ndL it.nd (putAll x its).sz))
  | [], _, _ => rfl
  | _ :: r, _, it => putAll_snoc r _ it
/-- What is asked of nodes to be saved. -/
def SvOk (w : World) (F : Nat → Prop) (x : Rp) (it : SvIt) : Prop :=
  NdAt w it.N it.b it.q it.nd ∧ it.nd.Fit x.sz ∧ (∃ c, x.now[it.q]? = some c ∧ c.used = true) ∧ ∀ j, it.N j → ¬ F j
theorem SvOk.next {w w' : World} {F F' : Nat → Prop} {x : Rp} {it it2 : SvIt} (h : SvOk w F x it) (hc : Chg F w w') (hF : ∀ j, F' j → F j ∨ w.heap.size ≤ j) (bs : List Int) : SvOk w' F' (x.put it2.q (.new bs)) it := by
  obtain ⟨h1, h2, ⟨c, h3, h4⟩, h5⟩ := h
  refine ⟨h1.chg hc h5, h2, ?_, fun j hj e => (hF j e).elim (h5 j hj) fun e => by have := h1.lt j hj; omega⟩
  by_cases e : it.q = it2.q
  · refine ⟨.new bs, ?_, rfl⟩
    rw [Rp.put_at (by rw [← e]; exact (List.getElem?_eq_some_iff.1 h3).1), if_pos e]
  · refine ⟨c, ?_, h4⟩
    unfold Rp.put
    simp only
    rw [List.getElem?_set_ne (Ne.symm e)]
    exact h3
def AlOut (w w' : World) (t p root : Nat) (F : Nat → Prop) (x : Rp) (its : List SvIt) (e : Ending) : Prop :=
  (e = .returned (.int .i64 0) ∧ BTTo w w' t p root F (putAll x its)) ∨ (e = .returned (.int .i64 21) ∧ Full w w' t p root F x 0)
def pv (its : List SvIt) : List Value := its.map fun it => .pointer (some ⟨it.b, 0, none⟩)
set_option maxRecDepth 100000 in
set_option maxHeartbeats 3200000 in
theorem ball_any (t p root g n c : Nat) (F : Nat → Prop) (x : Rp) (its : List SvIt) (w : World) (hb : BT w t p root F x) (ho : x.was ≠ none) (hok : ∀ it ∈ its, SvOk w F x it) (hn : its.length = n) (hn2 : n ≤ 100) (hs : Sl w 1 (some ⟨g, 0, none⟩) n (pv its)) (hg : ¬ F g) (hgl : g < w.heap.size) :
    Calls Tryz.prog 88 #[.pointer (some ⟨t, 0, none⟩), .slice (some ⟨g, 0, none⟩) n c] w fun e w' => AlOut w w' t p root F x its e := by
  have H := Lib.hid (And.intro hb (And.intro ho (And.intro hok (And.intro hn (And.intro hs (And.intro hg hgl))))))
  clear hb ho hok hn hs hg hgl
  go_enter Tryz.func88, Tryz.ntmps88
  go_wp2
  go_loopg [10] n (fun q i wr => ∃ (k : Nat) (y : Rp) (F' : Nat → Prop), q = n - k ∧ k ≤ n ∧ i = .int .i64 k ∧ BT wr t p root F' y ∧ Rch F F' w wr ∧ y = putAll x (its.take k) ∧ (∀ it ∈ its.drop k, SvOk wr F' y it) ∧ Sl wr 1 (some ⟨g, 0, none⟩) n (pv its) ∧ ¬ F' g ∧ y.now.countP Pk.used = x.now.countP Pk.used)
  case atStart => exact ⟨0, x, F, rfl, Nat.zero_le _, rfl, H.out.1, Rch.grew (Chg.refl _ _), rfl, by simpa using H.out.2.2.1, H.out.2.2.2.2.1, H.out.2.2.2.2.2.1, rfl⟩
  case round =>
    obtain ⟨k, y, F', rfl, hk, rfl, hbt, hrc, hy, hok, hs, hgF, hus⟩ := hrel
    have hlk : x.like y := hy ▸ putAll_like _ _
    by_cases hlt : k < n
    · have hlen := H.out.2.2.2.1
      obtain ⟨it, hit⟩ : ∃ it, its[k]? = some it := ⟨_, List.getElem?_eq_getElem (by omega)⟩
      have hdr : its.drop k = it :: its.drop (k + 1) := by
        obtain ⟨hl, he⟩ := List.getElem?_eq_some_iff.1 hit
        rw [List.drop_eq_getElem_cons hl, he]
      have hit1 := hok it (by rw [hdr]; exact List.mem_cons_self)
      obtain ⟨j1, j2, ⟨cc, j3, j4⟩, j5⟩ := hit1
      have hbN : ¬ F' it.b := by
        obtain ⟨_, _, _, _, _, _, -, -, -, -, hbN, -⟩ := j1
        exact j5 _ hbN
      have hsv := bsave_any t p root it.b it.q F' it.N y cc it.nd wr hbt j1 j2 (by rw [hlk.was]; exact H.out.2.1) j3 j4 hbN
      obtain ⟨b0, o0, e0, -, hx⟩ := hs.2 (by omega)
      cases e0
      have hce : wr.cell? ⟨g, k, none⟩ = some (.pointer (some ⟨it.b, 0, none⟩)) := by
        have := hx k _ (show (pv its)[k]? = some (.pointer (some ⟨it.b, 0, none⟩)) by simp [pv, hit])
        rwa [Nat.zero_add] at this
      have HS := Lib.hid (And.intro hsv (And.intro hbt (And.intro hrc (And.intro hy (And.intro hok (And.intro hs (And.intro hgF (And.intro hus (And.intro hlk (And.intro hdr (And.intro hit (And.intro j3 j4))))))))))))
      clear hsv hbt hrc hy hok hs hgF hus hlk hdr hit j1 j2 j3 j4 j5 hbN hx hlen
      go_wp2_with fail
      refine HS.out.1.mono ?_
      clear hce
      rintro e w3 (⟨rfl, F2, h1, h2, h3⟩ | ⟨hns, hnw, rfl, hg3⟩)
      · have H3 := Lib.hid (And.intro h1 (And.intro h2 h3))
        clear h1 h2 h3
        go_wp2_with fail
        go_roundg (n - (k + 1))
        case measure => omega
        case rel =>
          obtain ⟨-, hbt, hrc, hy, hok, hs, hgF, hus, hlk, hdr, hit, j3, j4⟩ := HS.out
          obtain ⟨h1, h2, h3⟩ := H3.out
          have hgw : g < wr.heap.size := by obtain ⟨b, o, e, hb, -⟩ := hs.2 (by omega); cases e; exact hb
          refine ⟨k + 1, _, F2, rfl, by omega, by simp, h1, hrc.trans ⟨h2, h3⟩, ?_, fun it2 hi2 => ?_, hs.chg h2 (fun a ha => by cases ha; exact hgF), fun e => (h3 g e).elim hgF fun e => by omega, ?_⟩
          · rw [List.take_add_one, hit]
            show _ = putAll x (its.take k ++ [it])
            rw [putAll_snoc, ← hy]
          · exact (hok it2 (by rw [hdr]; exact List.mem_cons_of_mem _ hi2)).next (it2 := it) h2 h3 _
          · have := Rp.put_used (c := .new (ndL it.nd y.sz)) j3
            rw [j4] at this
            simp [Pk.used] at this
            rw [← hus]
            exact this
      · have H3 := Lib.hid (And.intro hns hg3)
        clear hns hg3 hnw
        go_wp2_with fail
        go_ret
        obtain ⟨-, hbt, hrc, hy, hok, hs, hgF, hus, hlk, -⟩ := HS.out
        refine .inr ⟨rfl, y, ⟨F', hbt.grew H3.out.2, hrc.chg.grew H3.out.2, hrc.new⟩, hlk, by omega, fun e => ?_⟩
        have := H3.out.1
        have := e.1
        omega
    · obtain rfl : k = n := by omega
      have HE := Lib.hid (And.intro hbt (And.intro hrc hy))
      clear hbt hrc hy hok hs hgF hus hlk
      go_wp2
      go_ret
      have e1 := HE.out.2.2
      rw [List.take_of_length_le (by rw [H.out.2.2.2.1]; exact Nat.le_refl _)] at e1
      refine .inl ⟨rfl, ?_⟩
      rw [← e1]
      exact ⟨F', HE.out.1, HE.out.2.1.chg, HE.out.2.1.new⟩
end Go.Proofs.YtpkkcicaeldodaaGreatDoor

/- The tree: a node's rows are set. -/
namespace Go.Proofs.YtpkkcicaeldodaaGreatDoor
open Go.RowKit Go.Maps

def nvOwn (W : World) (v : Value) (l : List Value) : Prop := W.ownsRow 1 3 1 v l.length l
theorem Ap.own {w w' : World} {v v' u : Value} {n : Nat} {xs : List Value} (h : Ap w w' v v') (ho : w.ownsRow 1 3 1 u n xs) (hd : ∀ g, v.ownBlock = some g → u.ownBlock ≠ some g) : w'.ownsRow 1 3 1 u n xs ∧ ∀ g, v'.ownBlock = some g → u.ownBlock ≠ some g :=
  ⟨own_chg ho h.chg fun g hg e => hd g e hg, fun g hg e => (h.at_ g hg).elim (fun e2 => hd g e2 e) fun e2 => by have := (ho.lt g e).2; omega⟩
section
variable {W W' W2 : World} {N : Nat → Prop} {b q : Nat} {nd : Nd}
/-- The rows of a node, as values. -/
structure NdV (W : World) (N : Nat → Prop) (b q : Nat) (vk vv vc : Value) (lk lv lc : List Value) : Prop where
  blk : Blk W b 73 #[.int .i64 q, vk, vv, vc]
  rk : W.ownsRow 1 3 1 vk lk.length lk
  rv : W.ownsRow 1 3 1 vv lv.length lv
  rc : W.ownsRow 1 3 1 vc lc.length lc
  nb : N b
  nk : ∀ g, vk.ownBlock = some g → N g
  nv : ∀ g, vv.ownBlock = some g → N g
  nc : ∀ g, vc.ownBlock = some g → N g
  lt : ∀ j, N j → j < W.heap.size
  kv : ∀ g, vk.ownBlock = some g → vv.ownBlock ≠ some g
  kc : ∀ g, vk.ownBlock = some g → vc.ownBlock ≠ some g
  vc_ : ∀ g, vv.ownBlock = some g → vc.ownBlock ≠ some g
theorem own_blk {A : Option Addr} {n c : Nat} {g : Nat} (h : (Value.slice A n c).ownBlock = some g) : ∃ a, A = some a ∧ a.block = g := own_at h
theorem NdOwn.v (h : NdOwn W N b q nd) : ∃ vk vv vc, NdV W N b q vk vv vc (iv nd.keys) (iv nd.vals) (nv nd.kids) := by
  obtain ⟨Ak, ck, Av, cv, Ac, cc, h1, h2, h3, h4, h5, h6, h7, h8, h9, h10, h11, h12⟩ := h
  refine ⟨_, _, _, h1, by rw [iv_len]; exact h2, by rw [iv_len]; exact h3, by simpa [nv] using h4, h5, fun g hg => ?_, fun g hg => ?_, fun g hg => ?_, h9, fun g hg e => ?_, fun g hg e => ?_, fun g hg e => ?_⟩
  · obtain ⟨a, ha, rfl⟩ := own_at hg; exact h6 a ha
  · obtain ⟨a, ha, rfl⟩ := own_at hg; exact h7 a ha
  · obtain ⟨a, ha, rfl⟩ := own_at hg; exact h8 a ha
  · obtain ⟨a, ha, rfl⟩ := own_at hg; obtain ⟨a', ha', e'⟩ := own_at e; exact h10 a a' ha ha' e'.symm
  · obtain ⟨a, ha, rfl⟩ := own_at hg; obtain ⟨a', ha', e'⟩ := own_at e; exact h11 a a' ha ha' e'.symm
  · obtain ⟨a, ha, rfl⟩ := own_at hg; obtain ⟨a', ha', e'⟩ := own_at e; exact h12 a a' ha ha' e'.symm
theorem own_blockOf {w : World} {base : Nat} {e : TypeId} {s n c : Nat} {A : Option Addr} {xs : List Value} (h : w.ownsRow base e s (.slice A n c) n xs) : ∀ a, A = some a → (Value.slice A n c).ownBlock = some a.block := by
  rintro a rfl
  obtain ⟨g, rfl, -⟩ := own_some h
  simp [Value.ownBlock]
theorem NdV.own {vk vv vc : Value} {nd : Nd} (h : NdV W N b q vk vv vc (iv nd.keys) (iv nd.vals) (Go.Proofs.YtpkkcicaeldodaaGreatDoor.nv nd.kids)) : NdOwn W N b q nd := by
  have rk := h.rk
  have rv := h.rv
  have rc := h.rc
  rw [iv_len] at rk rv
  have hlc : (Go.Proofs.YtpkkcicaeldodaaGreatDoor.nv nd.kids).length = nd.kids.length := by simp [Go.Proofs.YtpkkcicaeldodaaGreatDoor.nv]
  rw [hlc] at rc
  obtain ⟨Ak, ck, rfl, -⟩ := own_shape rk
  obtain ⟨Av, cv, rfl, -⟩ := own_shape rv
  obtain ⟨Ac, cc, rfl, -⟩ := own_shape rc
  refine ⟨Ak, ck, Av, cv, Ac, cc, h.blk, rk, rv, rc, h.nb, fun a ha => h.nk _ (own_blockOf rk a ha), fun a ha => h.nv _ (own_blockOf rv a ha), fun a ha => h.nc _ (own_blockOf rc a ha), h.lt, fun a a' ha ha' e => ?_, fun a a' ha ha' e => ?_, fun a a' ha ha' e => ?_⟩
  · exact h.kv _ (own_blockOf rk a ha) (by rw [own_blockOf rv a' ha', e])
  · exact h.kc _ (own_blockOf rk a ha) (by rw [own_blockOf rc a' ha', e])
  · exact h.vc_ _ (own_blockOf rv a ha) (by rw [own_blockOf rc a' ha', e])
/-- Block b apart from a row. -/
theorem NdV.ne {vk vv vc : Value} {lk lv lc : List Value} (h : NdV W N b q vk vv vc lk lv lc) : vk.ownBlock ≠ some b ∧ vv.ownBlock ≠ some b ∧ vc.ownBlock ≠ some b := ⟨own_blk_ne h.rk h.blk (by decide), own_blk_ne h.rv h.blk (by decide), own_blk_ne h.rc h.blk (by decide)⟩
/-- The keys' row is another one. -/
theorem NdV.setK {vk vv vc v' : Value} {lk lv lc l' : List Value} (h : NdV W N b q vk vv vc lk lv lc) (ha : Ap W W' vk v') (ho : W'.ownsRow 1 3 1 v' l'.length l') (hW : W'.setCell ⟨b, 1, none⟩ v' = W2) :
    NdV W2 (fun j => N j ∨ v'.ownBlock = some j) b q v' vv vc l' lv lc := by
  obtain ⟨e1, e2, e3⟩ := h.ne
  obtain ⟨a1, a2⟩ := ha.own h.rv h.kv
  obtain ⟨b1, b2⟩ := ha.own h.rc h.kc
  have hb' := h.blk.chg ha.chg e1
  have e1' := own_blk_ne ho hb' (by decide)
  have hc : Chg (fun j => j = b) W' W2 := hW ▸ (Chg.refl (fun j => j = b) W').setCell (p := ⟨b, 1, none⟩) (fun _ => rfl) _
  have hz := hc.size
  have hz1 := ha.chg.size
  refine ⟨?_, own_chg ho hc fun g hg e => e1' (e ▸ hg), own_chg a1 hc fun g hg e => e2 (e ▸ hg), own_chg b1 hc fun g hg e => e3 (e ▸ hg), .inl h.nb, fun g hg => .inr hg, fun g hg => .inl (h.nv g hg), fun g hg => .inl (h.nc g hg), fun j hj => ?_, fun g hg e => a2 g hg e, fun g hg e => b2 g hg e, h.vc_⟩
  · subst hW
    have := hb'.put 1 v'
    simpa using this
  · rcases hj with e | e
    · have := h.lt j e; omega
    · have := (ho.lt j e).2; omega
theorem NdV.setV {vk vv vc v' : Value} {lk lv lc l' : List Value} (h : NdV W N b q vk vv vc lk lv lc) (ha : Ap W W' vv v') (ho : W'.ownsRow 1 3 1 v' l'.length l') (hW : W'.setCell ⟨b, 2, none⟩ v' = W2) :
    NdV W2 (fun j => N j ∨ v'.ownBlock = some j) b q vk v' vc lk l' lc := by
  obtain ⟨e1, e2, e3⟩ := h.ne
  obtain ⟨a1, a2⟩ := ha.own h.rk fun g hg e => h.kv g e hg
  obtain ⟨b1, b2⟩ := ha.own h.rc h.vc_
  have hb' := h.blk.chg ha.chg e2
  have e1' := own_blk_ne ho hb' (by decide)
  have hc : Chg (fun j => j = b) W' W2 := hW ▸ (Chg.refl (fun j => j = b) W').setCell (p := ⟨b, 2, none⟩) (fun _ => rfl) _
  have hz := hc.size
  have hz1 := ha.chg.size
  refine ⟨?_, own_chg a1 hc fun g hg e => e1 (e ▸ hg), own_chg ho hc fun g hg e => e1' (e ▸ hg), own_chg b1 hc fun g hg e => e3 (e ▸ hg), .inl h.nb, fun g hg => .inl (h.nk g hg), fun g hg => .inr hg, fun g hg => .inl (h.nc g hg), fun j hj => ?_, fun g hg e => a2 g e hg, h.kc, fun g hg e => b2 g hg e⟩
  · subst hW
    have := hb'.put 2 v'
    simpa using this
  · rcases hj with e | e
    · have := h.lt j e; omega
    · have := (ho.lt j e).2; omega
theorem NdV.setC {vk vv vc v' : Value} {lk lv lc l' : List Value} (h : NdV W N b q vk vv vc lk lv lc) (ha : Ap W W' vc v') (ho : W'.ownsRow 1 3 1 v' l'.length l') (hW : W'.setCell ⟨b, 3, none⟩ v' = W2) :
    NdV W2 (fun j => N j ∨ v'.ownBlock = some j) b q vk vv v' lk lv l' := by
  obtain ⟨e1, e2, e3⟩ := h.ne
  obtain ⟨a1, a2⟩ := ha.own h.rk fun g hg e => h.kc g e hg
  obtain ⟨b1, b2⟩ := ha.own h.rv fun g hg e => h.vc_ g e hg
  have hb' := h.blk.chg ha.chg e3
  have e1' := own_blk_ne ho hb' (by decide)
  have hc : Chg (fun j => j = b) W' W2 := hW ▸ (Chg.refl (fun j => j = b) W').setCell (p := ⟨b, 3, none⟩) (fun _ => rfl) _
  have hz := hc.size
  have hz1 := ha.chg.size
  refine ⟨?_, own_chg a1 hc fun g hg e => e1 (e ▸ hg), own_chg b1 hc fun g hg e => e2 (e ▸ hg), own_chg ho hc fun g hg e => e1' (e ▸ hg), .inl h.nb, fun g hg => .inl (h.nk g hg), fun g hg => .inl (h.nv g hg), fun g hg => .inr hg, fun j hj => ?_, h.kv, fun g hg e => a2 g e hg, fun g hg e => b2 g e hg⟩
  · subst hW
    have := hb'.put 3 v'
    simpa using this
  · rcases hj with e | e
    · have := h.lt j e; omega
    · have := (ho.lt j e).2; omega
theorem NdV.chg {vk vv vc : Value} {lk lv lc : List Value} {G : Nat → Prop} (h : NdV W N b q vk vv vc lk lv lc) (hc : Chg G W W') (hG : ∀ j, N j → ¬ G j) : NdV W' N b q vk vv vc lk lv lc :=
  ⟨h.blk.chg hc (hG _ h.nb), own_chg h.rk hc fun g hg => hG _ (h.nk g hg), own_chg h.rv hc fun g hg => hG _ (h.nv g hg), own_chg h.rc hc fun g hg => hG _ (h.nc g hg), h.nb, h.nk, h.nv, h.nc, fun j hj => Nat.lt_of_lt_of_le (h.lt j hj) hc.size, h.kv, h.kc, h.vc_⟩
end
end Go.Proofs.YtpkkcicaeldodaaGreatDoor

/- The tree: split (UNDER WAY). -/
namespace Go.Proofs.YtpkkcicaeldodaaGreatDoor
open Go.RowKit Go.Maps

/-- What split starts from, and keeps. -/
structure Sp (W : World) (t p root : Nat) (F : Nat → Prop) (y : Rp) (N1 N2 : Nat → Prop) (bk qk : Nat) (kd : Nd) : Prop where
  bt : BT W t p root F y
  kd : NdOwn W N2 bk qk kd
  d12 : ∀ j, N1 j → ¬ N2 j
  d1F : ∀ j, N1 j → ¬ F j ∧ j ≠ t ∧ j ≠ 0 ∧ j < W.heap.size
  d2F : ∀ j, N2 j → ¬ F j
section
variable {W W' : World} {t p root bk qk : Nat} {F F' : Nat → Prop} {y y' : Rp} {N1 N2 : Nat → Prop} {kd : Nd}
/-- A row of N1 was appended to. -/
theorem Sp.ap {v v' : Value} (h : Sp W t p root F y N1 N2 bk qk kd) (ha : Ap W W' v v') (hv : ∀ g, v.ownBlock = some g → N1 g) (hlt : ∀ g, v'.ownBlock = some g → g < W'.heap.size) : Sp W' t p root F y (fun j => N1 j ∨ v'.ownBlock = some j) N2 bk qk kd := by
  have hF := h.bt.gp.lt
  have ht := h.bt.blk.lt
  have hz := ha.chg.size
  have hk := h.kd.at.lt
  refine ⟨h.bt.chg ha.chg (fun j hj e => (h.d1F j (hv j e)).1 hj) (fun e => (h.d1F _ (hv _ e)).2.2.1 rfl) (fun e => (h.d1F _ (hv _ e)).2.1 rfl), h.kd.chg ha.chg fun j hj e => h.d12 j (hv j e) hj, fun j hj e => ?_, fun j hj => ?_, h.d2F⟩
  · rcases hj with hj | hj
    · exact h.d12 j hj e
    · rcases ha.at_ j hj with e2 | e2
      · exact h.d12 j (hv j e2) e
      · have := hk j e; omega
  · rcases hj with hj | hj
    · obtain ⟨a1, a2, a3, a4⟩ := h.d1F j hj
      exact ⟨a1, a2, a3, by omega⟩
    · rcases ha.at_ j hj with e2 | e2
      · obtain ⟨a1, a2, a3, a4⟩ := h.d1F j (hv j e2)
        exact ⟨a1, a2, a3, hlt j hj⟩
      · exact ⟨fun e => by have := hF j e; omega, by omega, by have := tab_pos h.bt.gp.tab; omega, hlt j hj⟩
/-- A block of N1 was stored into. -/
theorem Sp.st {g : Nat} (h : Sp W t p root F y N1 N2 bk qk kd) (hc : Chg (fun j => j = g) W W') (hg : N1 g) : Sp W' t p root F y N1 N2 bk qk kd := by
  obtain ⟨a1, a2, a3, a4⟩ := h.d1F g hg
  exact ⟨h.bt.chg hc (fun j hj e => a1 (e ▸ hj)) (fun e => a3 e.symm) (fun e => a2 e.symm), h.kd.chg hc fun j hj e => h.d12 g hg (e ▸ hj), h.d12, fun j hj => by obtain ⟨b1, b2, b3, b4⟩ := h.d1F j hj; exact ⟨b1, b2, b3, Nat.lt_of_lt_of_le b4 hc.size⟩, h.d2F⟩
theorem Sp.grew (h : Sp W t p root F y N1 N2 bk qk kd) (hc : Grew W W') : Sp W' t p root F y N1 N2 bk qk kd :=
  ⟨h.bt.grew hc, h.kd.grew hc, h.d12, fun j hj => by obtain ⟨b1, b2, b3, b4⟩ := h.d1F j hj; exact ⟨b1, b2, b3, Nat.lt_of_lt_of_le b4 hc.size⟩, h.d2F⟩
/-- The pager has worked. -/
theorem Sp.to (h : Sp W t p root F y N1 N2 bk qk kd) (hg : GPTo W W' p F y') : ∃ F', Sp W' t p root F' y' N1 N2 bk qk kd ∧ Rch F F' W W' := by
  obtain ⟨F', h1, h2, h3⟩ := h.bt.to hg
  have hk := h.kd.at.lt
  refine ⟨F', ⟨h1, h.kd.chg h2 h.d2F, h.d12, fun j hj => ?_, fun j hj e => ?_⟩, ⟨h2, h3⟩⟩
  · obtain ⟨b1, b2, b3, b4⟩ := h.d1F j hj
    exact ⟨fun e => (h3 j e).elim b1 fun e => by omega, b2, b3, Nat.lt_of_lt_of_le b4 h2.size⟩
  · rcases h3 j e with e | e
    · exact h.d2F j hj e
    · have := hk j hj; omega
end
end Go.Proofs.YtpkkcicaeldodaaGreatDoor

/- The tree: what split leaves; its end. -/
namespace Go.Proofs.YtpkkcicaeldodaaGreatDoor
open Go.RowKit Go.Maps

theorem Sl.take {w : World} {A : Option Addr} {n m : Nat} {xs : List Value} (h : Sl w 1 A n xs) (hm : m ≤ n) : Sl w 1 A m (xs.take m) := by
  have hx := h.1
  refine ⟨by rw [List.length_take]; omega, fun h0 => ?_⟩
  obtain ⟨b, o, e, hb, hc⟩ := h.2 (by omega)
  refine ⟨b, o, e, hb, fun j u hu => hc j u ?_⟩
  rw [List.getElem?_take] at hu
  split at hu
  · exact hu
  · cases hu
theorem iv_take (l : List Int) (m : Nat) : iv (l.take m) = (iv l).take m := by simp [iv]
theorem nv_take (l : List Nat) (m : Nat) : nv (l.take m) = (nv l).take m := by simp [nv]
theorem iv_drop (l : List Int) (m : Nat) : iv (l.drop m) = (iv l).drop m := by simp [iv]
theorem nv_drop (l : List Nat) (m : Nat) : nv (l.drop m) = (nv l).drop m := by simp [nv]
theorem nv_ivm (l : List Nat) : nv l = iv (l.map Int.ofNat) := by simp [nv, iv]
theorem nv_insN (l : List Nat) (i r : Nat) : nv (insN l i r) = iv (insI (l.map Int.ofNat) i (r : Int)) := by
  rw [nv_ivm]
  congr 1
  unfold insN insI
  rw [List.map_append, List.map_cons, List.map_take, List.map_drop]
  rfl
/-- The child's node behind its cuts. -/
theorem nd_lo {W : World} {N : Nat → Prop} {bk qk gk gv ck cv h cc m : Nat} {Ac : Option Addr} {kd : Nd} (hb : Blk W bk 73 #[.int .i64 qk, .slice (some ⟨gk, 0, none⟩) (h - 1) ck, .slice (some ⟨gv, 0, none⟩) (h - 1) cv, .slice Ac m cc])
    (h1 : Sl W 1 (some ⟨gk, 0, none⟩) kd.keys.length (iv kd.keys)) (h2 : Sl W 1 (some ⟨gv, 0, none⟩) kd.vals.length (iv kd.vals)) (h3 : Sl W 1 Ac kd.kids.length (nv kd.kids))
    (l1 : h - 1 ≤ kd.keys.length) (l2 : h - 1 ≤ kd.vals.length) (l3 : m = (kd.kids.take h).length)
    (n1 : N bk) (n2 : N gk) (n3 : N gv) (n4 : ∀ a, Ac = some a → N a.block) (n5 : ∀ j, N j → j < W.heap.size) : NdAt W N bk qk (kd.lo h) := by
  have e1 : (kd.lo h).keys.length = h - 1 := by simp [Nd.lo]; omega
  have e2 : (kd.lo h).vals.length = h - 1 := by simp [Nd.lo]; omega
  have e3 : (kd.lo h).kids.length = m := l3.symm
  refine ⟨some ⟨gk, 0, none⟩, ck, some ⟨gv, 0, none⟩, cv, Ac, cc, ?_, ?_, ?_, ?_, n1, fun a ha => by cases ha; exact n2, fun a ha => by cases ha; exact n3, n4, n5⟩
  · rw [e1, e2, e3]; exact hb
  · rw [e1]; have := h1.take l1; rw [← iv_take] at this; exact this
  · rw [e2]; have := h2.take l2; rw [← iv_take] at this; exact this
  · have h4 := h3.take (m := m) (by rw [l3, List.length_take]; omega)
    rw [e3]
    have e4 : (nv kd.kids).take m = nv (kd.lo h).kids := by
      show _ = nv (kd.kids.take h)
      rw [nv_take, l3, List.length_take]
      by_cases e : h ≤ kd.kids.length
      · rw [Nat.min_eq_left e]
      · rw [Nat.min_eq_right (by omega), List.take_of_length_le (by rw [nv_len]; exact Nat.le_refl _), List.take_of_length_le (by rw [nv_len]; omega)]
    rw [e4] at h4
    exact h4
/-- The disk is full, m pages more taken at most; blocks of G may have changed. -/
def FullG (G : Nat → Prop) (w w' : World) (t p root : Nat) (F : Nat → Prop) (x : Rp) (m : Nat) : Prop :=
  ∃ z F', BT w' t p root F' z ∧ Chg G w w' ∧ (∀ j, F' j → F j ∨ w.heap.size ≤ j) ∧ x.like z ∧ z.now.countP Pk.used ≤ x.now.countP Pk.used + m ∧ ¬ (1 ≤ z.slack ∧ Pk.no ∈ z.now)
/-- What split leaves. -/
def SplOut (G : Nat → Prop) (w w' : World) (t p root bn qn i qk h : Nat) (F N1 : Nat → Prop) (x : Rp) (nd kd : Nd) (e : Ending) : Prop :=
  (e = .returned (.int .i64 0) ∧ ∃ r k0 v0 F' N', x.now[r]? = some .no ∧ kd.keys[h - 1]? = some k0 ∧ kd.vals[h - 1]? = some v0 ∧ BT w' t p root F' (x.splitP r qk qn (kd.hi h) (kd.lo h) (nd.ins i k0 v0 r)) ∧ Chg G w w' ∧ (∀ j, F' j → F j ∨ w.heap.size ≤ j) ∧
    NdOwn w' N' bn qn (nd.ins i k0 v0 r) ∧ (∀ j, N' j → ¬ F' j) ∧ (∀ j, N' j → N1 j ∨ w.heap.size ≤ j) ∧ (kd.hi h).Fit x.sz ∧ (kd.lo h).Fit x.sz ∧ (nd.ins i k0 v0 r).Fit x.sz) ∨
  (e = .returned (.int .i64 21) ∧ FullG G w w' t p root F x 1)
theorem split_end {w W : World} {t p root bn bk R g r qn qk i h c : Nat} {F F1 N1 N13 N2 NR G : Nat → Prop} {x : Rp} {nd kd : Nd} {k0 v0 : Int} {cn ck : Pk}
    (hbt : BT W t p root F1 (x.put r .zero)) (ho : x.was ≠ none) (hr : x.now[r]? = some .no) (hqk : x.now[qk]? = some ck) (hqk2 : ck.used = true) (hqn : x.now[qn]? = some cn) (hqn2 : cn.used = true)
    (hn : NdOwn W N13 bn qn (nd.ins i k0 v0 r)) (hnF : ∀ j, N13 j → ¬ F1 j) (fn : (nd.ins i k0 v0 r).Fit x.sz)
    (hk : NdAt W N2 bk qk (kd.lo h)) (hkF : ∀ j, N2 j → ¬ F1 j) (fk : (kd.lo h).Fit x.sz)
    (hR : NdAt W NR R r (kd.hi h)) (hRF : ∀ j, NR j → ¬ F1 j) (fr : (kd.hi h).Fit x.sz)
    (hs : Sl W 1 (some ⟨g, 0, none⟩) 3 [.pointer (some ⟨R, 0, none⟩), .pointer (some ⟨bk, 0, none⟩), .pointer (some ⟨bn, 0, none⟩)]) (hg : ¬ F1 g)
    (hc : Chg G w W) (hF1 : ∀ j, F1 j → F j ∨ w.heap.size ≤ j) (hGF : ∀ j, F j → G j) (hN13 : ∀ j, N13 j → N1 j ∨ w.heap.size ≤ j) (hk0 : kd.keys[h - 1]? = some k0) (hv0 : kd.vals[h - 1]? = some v0) :
    Calls Tryz.prog 88 #[.pointer (some ⟨t, 0, none⟩), .slice (some ⟨g, 0, none⟩) 3 c] W fun e w' => SplOut G w w' t p root bn qn i qk h F N1 x nd kd e := by
  have hgW : g < W.heap.size := by obtain ⟨b, o, e, hb, -⟩ := hs.2 (by omega); cases e; exact hb
  obtain ⟨c1, k1, k1u⟩ := Rp.put_same (q := r) (c := .zero) hqk hqk2 rfl
  obtain ⟨c2, n1, n1u⟩ := Rp.put_same (q := r) (c := .zero) hqn hqn2 rfl
  have r1 : (x.put r .zero).now[r]? = some .zero := by rw [Rp.put_at (List.getElem?_eq_some_iff.1 hr).1, if_pos rfl]
  have hal := ball_any t p root g 3 c F1 (x.put r .zero) [⟨R, NR, r, kd.hi h⟩, ⟨bk, N2, qk, kd.lo h⟩, ⟨bn, N13, qn, nd.ins i k0 v0 r⟩] W hbt ho (fun it hit => by
    simp only [List.mem_cons, List.not_mem_nil, or_false] at hit
    rcases hit with rfl | rfl | rfl
    · exact ⟨hR, fr, ⟨_, r1, rfl⟩, hRF⟩
    · exact ⟨hk, fk, ⟨_, k1, k1u⟩, hkF⟩
    · exact ⟨hn.at, fn, ⟨_, n1, n1u⟩, hnF⟩) rfl (by omega) hs hg hgW
  refine hal.mono ?_
  have hz := hc.size
  have hnlt := hn.at.lt
  rintro e w' (⟨rfl, F2, h1, h2, h3⟩ | ⟨rfl, z, ⟨F2, h1, h2, h3⟩, h4, h5, h6⟩)
  · refine .inl ⟨rfl, r, k0, v0, F2, N13, hr, hk0, hv0, h1, Chg.trans hc h2 fun j hj e => hGF j ((hF1 j e).resolve_right (by omega)), fun j hj => (h3 j hj).elim (hF1 j) fun e => .inr (by omega), hn.chg h2 hnF, fun j hj e => (h3 j e).elim (hnF j hj) fun e => by have := hnlt j hj; omega, hN13, fr, fk, fn⟩
  · refine .inr ⟨rfl, z, F2, h1, Chg.trans hc h2 fun j hj e => hGF j ((hF1 j e).resolve_right (by omega)), fun j hj => (h3 j hj).elim (hF1 j) fun e => .inr (by omega), (x.put_like _ _).trans h4, ?_, h6⟩
    have := Rp.put_usedN (c := .zero) hr rfl
    omega
/-- The child is cut, and the three are saved. -/
theorem split_fin {w W : World} {t p root bn bk R r qn qk i h gk gv ck cv cc m : Nat} {Ac : Option Addr} {F F1 N1 N13 N2 NR G : Nat → Prop} {x : Rp} {nd kd : Nd} {k0 v0 : Int} {cn cq : Pk}
    (hbt : BT W t p root F1 (x.put r .zero)) (ho : x.was ≠ none) (hr : x.now[r]? = some .no) (hqk : x.now[qk]? = some cq) (hqk2 : cq.used = true) (hqn : x.now[qn]? = some cn) (hqn2 : cn.used = true)
    (hn : NdOwn W N13 bn qn (nd.ins i k0 v0 r)) (hnF : ∀ j, N13 j → ¬ F1 j) (fn : (nd.ins i k0 v0 r).Fit x.sz)
    (hb : Blk W bk 73 #[.int .i64 qk, .slice (some ⟨gk, 0, none⟩) (2 * h - 1) ck, .slice (some ⟨gv, 0, none⟩) (2 * h - 1) cv, .slice Ac m cc])
    (h1 : Sl W 1 (some ⟨gk, 0, none⟩) kd.keys.length (iv kd.keys)) (h2 : Sl W 1 (some ⟨gv, 0, none⟩) kd.vals.length (iv kd.vals)) (h3 : Sl W 1 Ac kd.kids.length (nv kd.kids))
    (l1 : h - 1 ≤ kd.keys.length) (l2 : h - 1 ≤ kd.vals.length) (l3 : m = (kd.kids.take h).length)
    (n1 : N2 bk) (n2 : N2 gk) (n3 : N2 gv) (n4 : ∀ a, Ac = some a → N2 a.block) (n5 : ∀ j, N2 j → j < W.heap.size) (a1 : gk ≠ bk) (a2 : gv ≠ bk) (a3 : ∀ a, Ac = some a → a.block ≠ bk)
    (hkF : ∀ j, N2 j → ¬ F1 j) (h12 : ∀ j, N13 j → ¬ N2 j) (fk : (kd.lo h).Fit x.sz)
    (hR : NdAt W NR R r (kd.hi h)) (hRF : ∀ j, NR j → ¬ F1 j) (hR2 : ∀ j, NR j → ¬ N2 j) (fr : (kd.hi h).Fit x.sz) (ht : ¬ N2 t ∧ ¬ N2 0)
    (hc : Chg G w W) (hF1 : ∀ j, F1 j → F j ∨ w.heap.size ≤ j) (hGF : ∀ j, F j → G j) (hG2 : ∀ j, N2 j → G j) (hN13 : ∀ j, N13 j → N1 j ∨ w.heap.size ≤ j) (hk0 : kd.keys[h - 1]? = some k0) (hv0 : kd.vals[h - 1]? = some v0) :
    Calls Tryz.prog 88 #[.pointer (some ⟨t, 0, none⟩), .slice (some ⟨W.heap.size, 0, none⟩) 3 3] (((W.drew.setCell ⟨bk, 1, none⟩ (.slice (some ⟨gk, 0, none⟩) (h - 1) ck)).setCell ⟨bk, 2, none⟩ (.slice (some ⟨gv, 0, none⟩) (h - 1) cv)).alloc (.cells #[.pointer (some ⟨R, 0, none⟩), .pointer (some ⟨bk, 0, none⟩), .pointer (some ⟨bn, 0, none⟩)] 69)) fun e w' => SplOut G w w' t p root bn qn i qk h F N1 x nd kd e := by
  obtain ⟨W2, hW2⟩ : ∃ W2, (W.drew.setCell ⟨bk, 1, none⟩ (.slice (some ⟨gk, 0, none⟩) (h - 1) ck)).setCell ⟨bk, 2, none⟩ (.slice (some ⟨gv, 0, none⟩) (h - 1) cv) = W2 := ⟨_, rfl⟩
  have hb2 : Blk W2 bk 73 #[.int .i64 qk, .slice (some ⟨gk, 0, none⟩) (h - 1) ck, .slice (some ⟨gv, 0, none⟩) (h - 1) cv, .slice Ac m cc] := by
    subst hW2
    have := (hb.drew.put 1 (.slice (some ⟨gk, 0, none⟩) (h - 1) ck)).put 2 (.slice (some ⟨gv, 0, none⟩) (h - 1) cv)
    simpa using this
  have hz2 : W2.heap.size = W.heap.size := by subst hW2; simp
  have hc2 : Chg (fun j => j = bk) W W2 := hW2 ▸ (((Chg.refl (fun j => j = bk) W).drew.setCell (p := ⟨bk, 1, none⟩) (fun _ => rfl) _).setCell (p := ⟨bk, 2, none⟩) (fun _ => rfl) _)
  rw [hW2]
  obtain ⟨W3, hW3⟩ : ∃ W3, W2.alloc (.cells #[.pointer (some ⟨R, 0, none⟩), .pointer (some ⟨bk, 0, none⟩), .pointer (some ⟨bn, 0, none⟩)] 69) = W3 := ⟨_, rfl⟩
  rw [hW3]
  have hg3 : Grew W2 W3 := hW3 ▸ (Chg.refl _ _).alloc _
  have hc3 : Chg (fun j => j = bk) W W3 := hc2.grew hg3
  have hb3 := hb2.grew hg3
  have hl3 : Blk W3 W.heap.size 69 #[.pointer (some ⟨R, 0, none⟩), .pointer (some ⟨bk, 0, none⟩), .pointer (some ⟨bn, 0, none⟩)] := by subst hW3; rw [← hz2]; exact Blk.new _ _ _
  have hsz := hc3.size
  refine split_end (hbt.chg hc3 (fun j hj e => hkF j (e ▸ n1) hj) (fun e => ht.2 (e ▸ n1)) (fun e => ht.1 (e ▸ n1))) ho hr hqk hqk2 hqn hqn2 (hn.chg hc3 fun j hj e => h12 j hj (e ▸ n1)) hnF fn
    (nd_lo hb3 (h1.chg hc3 fun a ha => by cases ha; exact a1) (h2.chg hc3 fun a ha => by cases ha; exact a2) (h3.chg hc3 a3) l1 l2 l3 n1 n2 n3 n4 fun j hj => Nat.lt_of_lt_of_le (n5 j hj) hsz) hkF fk
    (hR.chg hc3 fun j hj e => hR2 j hj (e ▸ n1)) hRF fr ⟨rfl, fun _ => ⟨W.heap.size, 0, rfl, hl3.lt, fun j u hu => ?_⟩⟩ (fun e => by have := hbt.gp.lt _ e; omega) (Chg.trans hc hc3 fun j _ e => hG2 j (e ▸ n1)) hF1 hGF hN13 hk0 hv0
  rw [Nat.zero_add, hl3.cell, ← hu]
  simp
end Go.Proofs.YtpkkcicaeldodaaGreatDoor

/- The tree: split, walked. -/
namespace Go.Proofs.YtpkkcicaeldodaaGreatDoor
open Go.RowKit Go.Maps

theorem NdOwn.rows {W : World} {N : Nat → Prop} {b q : Nat} {nd : Nd} (h : NdOwn W N b q nd) (h1 : 0 < nd.keys.length) (h2 : 0 < nd.vals.length) :
    ∃ gk ck gv cv Ac cc, Blk W b 73 #[.int .i64 q, .slice (some ⟨gk, 0, none⟩) nd.keys.length ck, .slice (some ⟨gv, 0, none⟩) nd.vals.length cv, .slice Ac nd.kids.length cc] ∧ Sl W 1 (some ⟨gk, 0, none⟩) nd.keys.length (iv nd.keys) ∧ Sl W 1 (some ⟨gv, 0, none⟩) nd.vals.length (iv nd.vals) ∧ Sl W 1 Ac nd.kids.length (nv nd.kids) ∧ N b ∧ N gk ∧ N gv ∧ (∀ a, Ac = some a → N a.block ∧ a.off = 0 ∧ a.spot = none) ∧ (nd.keys.length ≤ ck ∧ nd.vals.length ≤ cv ∧ nd.kids.length ≤ cc) ∧ gk ≠ b ∧ gv ≠ b ∧ ∀ a, Ac = some a → a.block ≠ b := by
  obtain ⟨Ak, ck, Av, cv, Ac, cc, b1, b2, b3, b4, b5, b6, b7, b8, -⟩ := h
  obtain ⟨gk, rfl, -⟩ := own_block b2 h1
  obtain ⟨gv, rfl, -⟩ := own_block b3 h2
  have k1 : nd.keys.length ≤ ck := by obtain ⟨cur, -, -, h3, -⟩ := own_row b2; exact h3
  have k2 : nd.vals.length ≤ cv := by obtain ⟨cur, -, -, h3, -⟩ := own_row b3; exact h3
  have k3 : nd.kids.length ≤ cc := by obtain ⟨A', c', e, h3⟩ := own_shape b4; cases e; exact h3
  refine ⟨gk, ck, gv, cv, Ac, cc, b1, Sl.of_own b2, Sl.of_own b3, Sl.of_own b4, b5, b6 _ rfl, b7 _ rfl, fun a ha => ⟨b8 a ha, ?_⟩, ⟨k1, k2, k3⟩, fun e => own_blk_ne b2 b1 (by decide) (by rw [own_blockOf b2 _ rfl, e]), fun e => own_blk_ne b3 b1 (by decide) (by rw [own_blockOf b3 _ rfl, e]), fun a ha e => own_blk_ne b4 b1 (by decide) (by rw [own_blockOf b4 a ha, e])⟩
  subst ha
  obtain ⟨g, rfl, -⟩ := own_some b4
  exact ⟨rfl, rfl⟩

set_option maxRecDepth 100000 in
set_option maxHeartbeats 3200000 in
theorem bsplit_any (t p root bn qn i bk qk h : Nat) (F N1 N2 : Nat → Prop) (x : Rp) (nd kd : Nd) (w : World) (hs : Sp w t p root F x N1 N2 bk qk kd) (hn : NdOwn w N1 bn qn nd) (hh : halfN x.sz = h) (h2 : 2 ≤ h) (ho : x.was ≠ none)
    (hf : kd.keys.length = 2 * h - 1) (hkv : kd.vals.length = 2 * h - 1) (hkc : kd.kids.length = 0 ∨ kd.kids.length = 2 * h) (hnl : nd.keys.length + 1 ≤ 2 * h - 1) (hnv : nd.vals.length = nd.keys.length) (hnc : nd.kids.length = nd.keys.length + 1) (hi : i ≤ nd.keys.length)
    (fn : nd.Fit x.sz) (fk : kd.Fit x.sz) (hpn : ∃ c, x.now[qn]? = some c ∧ c.used = true) (hpk : ∃ c, x.now[qk]? = some c ∧ c.used = true) (h2t : ¬ N2 t ∧ ¬ N2 0) :
    Calls Tryz.prog 43 #[.pointer (some ⟨t, 0, none⟩), .pointer (some ⟨bn, 0, none⟩), .int .i64 i, .pointer (some ⟨bk, 0, none⟩)] w fun e w' => SplOut (fun j => F j ∨ N1 j ∨ N2 j) w w' t p root bn qn i qk h F N1 x nd kd e := by
  have HX := Lib.hid (And.intro fn (And.intro fk (And.intro hpn (And.intro hpk h2t))))
  clear fn fk hpn hpk h2t
  have hz := hs.bt.gp.szs
  have h300 : h ≤ 300 := by rw [← hh]; unfold halfN mostN; omega
  have hhf := bhalf_any t p root F x w hs.bt
  rw [hh] at hhf
  have hal := gp_alloc_any p F x w hs.bt.gp ho
  obtain ⟨c0, f0, s0⟩ := hs.bt.blk.facts
  have H := Lib.hid (And.intro hhf (And.intro hal (And.intro hs (And.intro hn ho))))
  clear hhf hal hs hn ho hh hz
  go_enter Tryz.func43, Tryz.ntmps43
  go_wp2_with (go_at_call 71; (refine H.out.1.mono ?_); rintro e w1 ⟨rfl, rfl⟩)
  refine H.out.2.1.mono ?_
  rintro e w1 (⟨r, hr, hrf, rfl, hto⟩ | ⟨hno, rfl, hg1⟩)
  rotate_left
  · have HN := Lib.hid (And.intro hno hg1)
    clear hno hg1
    go_wp2_with fail
    go_ret
    exact .inr ⟨rfl, x, F, H.out.2.2.1.bt.grew HN.out.2, HN.out.2.chg, fun _ e => .inl e, Rp.like.refl x, by omega, fun e => HN.out.1 ⟨by omega, e.2⟩⟩
  obtain ⟨F1, hs1, hrch⟩ := H.out.2.2.1.to hto
  have hr4 : r < 4096 := by have h1 := (List.getElem?_eq_some_iff.1 hr).1; have := H.out.2.2.1.bt.gp.szs; omega
  obtain ⟨gk, ck, gv, cv, Ac, cc, b1, b2, b3, b4, b5, b6, b7, b8, ⟨b9, b10, b11⟩, b12⟩ := hs1.kd.rows (by omega) (by omega)
  have hd1 : w1.drew.cell? ⟨bk, 1, none⟩ = some (.slice (some ⟨gk, 0, none⟩) kd.keys.length ck) ∧ w1.drew.cell? ⟨bk, 2, none⟩ = some (.slice (some ⟨gv, 0, none⟩) kd.vals.length cv) := ⟨b1.drew.cell 1, b1.drew.cell 2⟩
  have H1 := Lib.hid (And.intro hs1 (And.intro hrch (And.intro b1 (And.intro b2 (And.intro b3 (And.intro b4 (And.intro b5 (And.intro b6 (And.intro b7 (And.intro b8 (And.intro hr (And.intro hrf (And.intro b11 b12)))))))))))))
  have s1 : ¬ ck = h := by omega
  have s2 : ¬ cv = h := by omega
  have s3 : (h : Int) ≤ ((2 * h - 1 : Nat) : Int) := by omega
  have hkl : Sl w1 1 (some ⟨gk, h, none⟩) (h - 1) ((iv kd.keys).drop h) := by
    have h9 := Sl.cut (H1.out.2.2.2.1) h (h - 1) (by omega)
    rw [List.take_of_length_le (by rw [List.length_drop, iv_len]; omega), Nat.zero_add] at h9
    exact h9
  have hvl : Sl w1 1 (some ⟨gv, h, none⟩) (h - 1) ((iv kd.vals).drop h) := by
    have h9 := Sl.cut (H1.out.2.2.2.2.1) h (h - 1) (by omega)
    rw [List.take_of_length_le (by rw [List.length_drop, iv_len]; omega), Nat.zero_add] at h9
    exact h9
  have HKL := Lib.hid (And.intro hkl hvl)
  have hck : h - 1 ≤ ck := by omega
  have hcv : h - 1 ≤ cv := by omega
  clear hs1 hrch b1 b2 b3 b4 b5 b6 b7 b8 b12 hr hrf hto c0 f0 s0 hkl hvl
  rw [hf] at hd1
  rw [hkv] at hd1
  go_wp2_with fail
  refine wp_region_held_drew (S := fun w' => w'.cell? ⟨bk, 1, none⟩ = some (.slice (some ⟨gk, 0, none⟩) (2 * h - 1) ck) ∧ w'.cell? ⟨bk, 2, none⟩ = some (.slice (some ⟨gv, 0, none⟩) (2 * h - 1) cv)) (by kernel_rfl) hd1 (fun hHeld => ?_)
  refine wpAnyH_take (i := 0) (v := ?_) rfl (by kernel_rfl) (by kernel_rfl) (by kernel_rfl) (fun _ _ _ h => h) (Or.inl ⟨by rfl, ?_⟩) hHeld ?_
  rotate_left
  · (intro w hSw; (try dsimp only at hSw); go_simp) <;> with_reducible rfl
  (try simp only [Act.put, List.setIfInBounds_toArray, List.set_cons_zero, List.set_cons_succ, List.getElem_toArray, List.getElem_cons_zero, List.getElem_cons_succ])
  refine wpAnyH_take (i := 1) (v := ?_) rfl (by kernel_rfl) (by kernel_rfl) (by kernel_rfl) (fun _ _ _ h => h) (Or.inl ⟨by rfl, ?_⟩) hHeld ?_
  rotate_left
  · (intro w hSw; (try dsimp only at hSw); go_simp) <;> with_reducible rfl
  (try simp only [Act.put, List.setIfInBounds_toArray, List.set_cons_zero, List.set_cons_succ, List.getElem_toArray, List.getElem_cons_zero, List.getElem_cons_succ])
  refine wpAnyH_take (i := 2) (v := ?_) rfl (by kernel_rfl) (by kernel_rfl) (by kernel_rfl) (fun _ _ _ h => h) (Or.inl ⟨by rfl, ?_⟩) hHeld ?_
  rotate_left
  · (intro w hSw; (try dsimp only at hSw); go_simp) <;> with_reducible rfl
  (try simp only [Act.put, List.setIfInBounds_toArray, List.set_cons_zero, List.set_cons_succ, List.getElem_toArray, List.getElem_cons_zero, List.getElem_cons_succ])
  refine wpAnyH_take (i := 3) (v := ?_) rfl (by kernel_rfl) (by kernel_rfl) (by kernel_rfl) (fun _ _ _ h => h) (Or.inl ⟨by rfl, ?_⟩) hHeld ?_
  rotate_left
  · (intro w hSw; (try dsimp only at hSw); go_simp) <;> with_reducible rfl
  (try simp only [Act.put, List.setIfInBounds_toArray, List.set_cons_zero, List.set_cons_succ, List.getElem_toArray, List.getElem_cons_zero, List.getElem_cons_succ])
  refine wpAnyH_take (i := 4) (v := ?_) rfl (by kernel_rfl) (by kernel_rfl) (by kernel_rfl) (fun _ _ _ h => h) (Or.inl ⟨by rfl, ?_⟩) hHeld ?_
  rotate_left
  · (intro w hSw; (try dsimp only at hSw); go_simp) <;> with_reducible rfl
  (try simp only [Act.put, List.setIfInBounds_toArray, List.set_cons_zero, List.set_cons_succ, List.getElem_toArray, List.getElem_cons_zero, List.getElem_cons_succ])
  refine wpAnyH_take (i := 5) (v := ?_) rfl (by kernel_rfl) (by kernel_rfl) (by kernel_rfl) (fun _ _ _ h => h) (Or.inl ⟨by rfl, ?_⟩) hHeld ?_
  rotate_left
  · (intro w hSw; (try dsimp only at hSw); go_simp) <;> with_reducible rfl
  (try simp only [Act.put, List.setIfInBounds_toArray, List.set_cons_zero, List.set_cons_succ, List.getElem_toArray, List.getElem_cons_zero, List.getElem_cons_succ])
  refine wpAnyH_take (i := 6) (v := ?_) rfl (by kernel_rfl) (by kernel_rfl) (by kernel_rfl) (fun _ _ _ h => h) (Or.inl ⟨by rfl, ?_⟩) hHeld ?_
  rotate_left
  · (intro w hSw; (try dsimp only at hSw); go_simp) <;> with_reducible rfl
  (try simp only [Act.put, List.setIfInBounds_toArray, List.set_cons_zero, List.set_cons_succ, List.getElem_toArray, List.getElem_cons_zero, List.getElem_cons_succ])
  refine wpAnyH_take (i := 8) (v := ?_) rfl (by kernel_rfl) (by kernel_rfl) (by kernel_rfl) (fun _ _ _ h => h) (Or.inl ⟨by rfl, ?_⟩) hHeld ?_
  rotate_left
  · (intro w hSw; (try dsimp only at hSw); go_simp) <;> with_reducible rfl
  (try simp only [Act.put, List.setIfInBounds_toArray, List.set_cons_zero, List.set_cons_succ, List.getElem_toArray, List.getElem_cons_zero, List.getElem_cons_succ])
  refine wpAnyH_take (i := 9) (v := ?_) rfl (by kernel_rfl) (by kernel_rfl) (by kernel_rfl) (fun _ _ _ h => h) (Or.inl ⟨by rfl, ?_⟩) hHeld ?_
  rotate_left
  · (intro w hSw; (try dsimp only at hSw); go_simp) <;> with_reducible rfl
  (try simp only [Act.put, List.setIfInBounds_toArray, List.set_cons_zero, List.set_cons_succ, List.getElem_toArray, List.getElem_cons_zero, List.getElem_cons_succ])
  refine wpAnyH_take (i := 10) (v := ?_) rfl (by kernel_rfl) (by kernel_rfl) (by kernel_rfl) (fun _ _ _ h => h) (Or.inl ⟨by rfl, ?_⟩) hHeld ?_
  rotate_left
  · (intro w hSw; (try dsimp only at hSw); go_simp) <;> with_reducible rfl
  (try simp only [Act.put, List.setIfInBounds_toArray, List.set_cons_zero, List.set_cons_succ, List.getElem_toArray, List.getElem_cons_zero, List.getElem_cons_succ])
  refine wpAnyH_take (i := 11) (v := ?_) rfl (by kernel_rfl) (by kernel_rfl) (by kernel_rfl) (fun _ _ _ h => h) (Or.inl ⟨by rfl, ?_⟩) hHeld ?_
  rotate_left
  · (intro w hSw; (try dsimp only at hSw); go_simp) <;> with_reducible rfl
  (try simp only [Act.put, List.setIfInBounds_toArray, List.set_cons_zero, List.set_cons_succ, List.getElem_toArray, List.getElem_cons_zero, List.getElem_cons_succ])
  refine wpAnyH_take (i := 12) (v := ?_) rfl (by kernel_rfl) (by kernel_rfl) (by kernel_rfl) (fun _ _ _ h => h) (Or.inl ⟨by rfl, ?_⟩) hHeld ?_
  rotate_left
  · (intro w hSw; (try dsimp only at hSw); go_simp) <;> with_reducible rfl
  (try simp only [Act.put, List.setIfInBounds_toArray, List.set_cons_zero, List.set_cons_succ, List.getElem_toArray, List.getElem_cons_zero, List.getElem_cons_succ])
  refine wpAnyH_take (i := 13) (v := ?_) rfl (by kernel_rfl) (by kernel_rfl) (by kernel_rfl) (fun _ _ _ h => h) (Or.inl ⟨by rfl, ?_⟩) hHeld ?_
  rotate_left
  · (intro w hSw; (try dsimp only at hSw); go_simp) <;> with_reducible rfl
  (try simp only [Act.put, List.setIfInBounds_toArray, List.set_cons_zero, List.set_cons_succ, List.getElem_toArray, List.getElem_cons_zero, List.getElem_cons_succ])
  refine wpAnyH_ready (rs := [7]) (by kernel_rfl) (by simp) ?_
  refine AllReadyH.cons rfl (fun K hK => ?_) AllReadyH.nil
  go_simp
  have s4 : 2 * h - 1 - h = h - 1 := by omega
  rw [s4]
  refine (bclone_int gk h (h - 1) (ck - h) _ w1.drew (HKL.out.1.grew ((Chg.refl _ _).drew)) (fun u hu => iv_one _ u (List.mem_of_mem_drop hu)) (by omega) (by omega)).mono ?_
  rintro e w3 ⟨A3, c3, rfl, ho3, hg3⟩
  have hd3 : w3.cell? ⟨bk, 1, none⟩ = some (.slice (some ⟨gk, 0, none⟩) (2 * h - 1) ck) ∧ w3.cell? ⟨bk, 2, none⟩ = some (.slice (some ⟨gv, 0, none⟩) (2 * h - 1) cv) := ⟨(hg3.cell (p := ⟨bk, 1, none⟩) H1.out.2.2.1.drew.lt id).trans hd1.1, (hg3.cell (p := ⟨bk, 2, none⟩) H1.out.2.2.1.drew.lt id).trans hd1.2⟩
  refine hK.out _ _ hd3 (fun _ => ?_)
  clear hK K
  (try simp only [Act.put, List.setIfInBounds_toArray, List.set_cons_zero, List.set_cons_succ, List.getElem_toArray, List.getElem_cons_zero, List.getElem_cons_succ])
  refine wpAnyH_ready (rs := [14]) (by kernel_rfl) (by simp) ?_
  refine AllReadyH.cons rfl (fun K hK => ?_) AllReadyH.nil
  go_simp
  refine (bclone_int gv h (h - 1) (cv - h) _ w3 (HKL.out.2.grew (Grew.trans ((Chg.refl _ _).drew) hg3)) (fun u hu => iv_one _ u (List.mem_of_mem_drop hu)) (by omega) (by omega)).mono ?_
  rintro e w4 ⟨A4, c4, rfl, ho4, hg4⟩
  have hd4 : w4.cell? ⟨bk, 1, none⟩ = some (.slice (some ⟨gk, 0, none⟩) (2 * h - 1) ck) ∧ w4.cell? ⟨bk, 2, none⟩ = some (.slice (some ⟨gv, 0, none⟩) (2 * h - 1) cv) := ⟨(hg4.cell (p := ⟨bk, 1, none⟩) (H1.out.2.2.1.drew.grew hg3).lt id).trans hd3.1, (hg4.cell (p := ⟨bk, 2, none⟩) (H1.out.2.2.1.drew.grew hg3).lt id).trans hd3.2⟩
  have H4 := Lib.hid (And.intro ho3 (And.intro ho4 (And.intro (Grew.trans ((Chg.refl NoF w1).drew) hg3) hg4)))
  clear ho3 ho4 hg3 hg4 hd3
  refine hK.out _ _ hd4 (fun _ => ?_)
  clear hK K
  (try simp only [Act.put, List.setIfInBounds_toArray, List.set_cons_zero, List.set_cons_succ, List.getElem_toArray, List.getElem_cons_zero, List.getElem_cons_succ])
  refine wpAnyH_take (i := 15) (v := ?_) rfl (by kernel_rfl) (by kernel_rfl) (by kernel_rfl) (fun _ _ _ h => h) (Or.inl ⟨by rfl, ?_⟩) hd4 ?_
  rotate_left
  · (intro w hSw; (try dsimp only at hSw); go_simp) <;> with_reducible rfl
  (try simp only [Act.put, List.setIfInBounds_toArray, List.set_cons_zero, List.set_cons_succ, List.getElem_toArray, List.getElem_cons_zero, List.getElem_cons_succ])
  refine wpAnyH_ready (rs := [16]) (by kernel_rfl) (by simp) ?_
  refine AllReadyH.cons rfl (fun K hK => ?_) AllReadyH.nil
  go_simp
  obtain ⟨W5, hW5⟩ : ∃ W, w4.alloc (.cells #[.int .i64 r, .slice A3 (h - 1) c3, .slice A4 (h - 1) c4, .slice none 0 0] 73) = W := ⟨_, rfl⟩
  rw [hW5]
  obtain ⟨R, hR⟩ : ∃ R, w4.heap.size = R := ⟨_, rfl⟩
  have hg45 : Grew w4 W5 := hW5 ▸ (Chg.refl _ _).alloc _
  have hg15 : Grew w1 W5 := Grew.trans H4.out.2.2.1 (Grew.trans H4.out.2.2.2 hg45)
  have hb5 : Blk W5 R 73 #[.int .i64 r, .slice A3 (h - 1) c3, .slice A4 (h - 1) c4, .slice none 0 0] := by subst hW5 hR; exact Blk.new _ _ _
  have hz5 : W5.heap.size = R + 1 := by subst hW5 hR; simp
  have hd5 : W5.cell? ⟨bk, 1, none⟩ = some (.slice (some ⟨gk, 0, none⟩) (2 * h - 1) ck) ∧ W5.cell? ⟨bk, 2, none⟩ = some (.slice (some ⟨gv, 0, none⟩) (2 * h - 1) cv) := by
    have h9 := H1.out.2.2.1.grew hg15
    rw [hf, hkv] at h9
    exact ⟨h9.cell 1, h9.cell 2⟩
  have hkd : (kd.keys.drop h).length = h - 1 := by rw [List.length_drop]; omega
  have hvd : (kd.vals.drop h).length = h - 1 := by rw [List.length_drop]; omega
  have hp1 : 1 ≤ w1.heap.size := tab_pos H1.out.1.bt.gp.tab
  have hz13 := H4.out.2.2.1.size
  have hz34 := H4.out.2.2.2.size
  rw [hR] at hz34
  have hright : NdOwn W5 (fun j => w1.heap.size ≤ j ∧ j < W5.heap.size) R r ⟨kd.keys.drop h, kd.vals.drop h, []⟩ := by
    refine nd_mk (s1 := w1.heap.size) (s2 := w3.heap.size) (s3 := R) (s4 := W5.heap.size) (s5 := W5.heap.size) (A1 := A3) (A2 := A4) (A3 := none) (c1 := c3) (c2 := c4) (c3 := 0) ?_ ?_ ?_ (World.ownsRow_nil _ _ _ _) (fun a ha => own_rng H4.out.1 a ha) (fun a ha => by have := own_rng H4.out.2.1 a ha; rw [hR] at this; exact this) (fun a ha => by cases ha) (by omega) (by omega)
    · simp only [hkd, hvd]; exact hb5
    · have h9 := own_base (own_grew H4.out.1 (Grew.trans H4.out.2.2.2 hg45)) hp1
      simp only [hkd]
      simpa [iv] using h9
    · have h9 := own_base (own_grew H4.out.2.1 hg45) (show 1 ≤ w3.heap.size by omega)
      simp only [hvd]
      simpa [iv] using h9
  have hsp5 := H1.out.1.grew hg15
  have hn5 := (H.out.2.2.2.1.chg H1.out.2.1.chg fun j hj => (H.out.2.2.1.d1F j hj).1).grew hg15
  have H5 := Lib.hid (And.intro hright (And.intro hsp5 (And.intro hn5 (And.intro hg15 hz5))))
  clear hright hsp5 hn5 hg15 hg45 hb5 hz5 hkd hvd hW5
  refine hK.out _ _ hd5 (fun _ => ?_)
  clear hK K
  (try simp only [Act.put, List.setIfInBounds_toArray, List.set_cons_zero, List.set_cons_succ, List.getElem_toArray, List.getElem_cons_zero, List.getElem_cons_succ])
  refine wpAnyH_ready (rs := [17]) (by kernel_rfl) (by simp) ?_
  refine AllReadyH.cons rfl (fun K hK => ?_) AllReadyH.nil
  go_simp
  refine hK.out _ _ hd5 (fun _ => ?_)
  clear hK K
  (try simp only [Act.put, List.setIfInBounds_toArray, List.set_cons_zero, List.set_cons_succ, List.getElem_toArray, List.getElem_cons_zero, List.getElem_cons_succ])
  refine wpAnyH_done (by kernel_rfl) ?_ _
  clear hHeld hd1 hd4 hd5
  obtain ⟨k0, hk0⟩ : ∃ k0, kd.keys[h - 1]? = some k0 := ⟨_, List.getElem?_eq_getElem (by omega)⟩
  obtain ⟨v0, hv0⟩ : ∃ v0, kd.vals[h - 1]? = some v0 := ⟨_, List.getElem?_eq_getElem (by omega)⟩
  obtain ⟨vk, vv, vc, hV⟩ := H5.out.2.2.1.v
  have hck0 : w1.cell? ⟨gk, h - 1, none⟩ = some (.int .i64 k0) := by
    obtain ⟨b, o, e, -, hx⟩ := H1.out.2.2.2.1.2 (by omega)
    cases e
    have := hx (h - 1) (.int .i64 k0) (by simp [iv, hk0])
    rwa [Nat.zero_add] at this
  have hcv0 : w1.cell? ⟨gv, h - 1, none⟩ = some (.int .i64 v0) := by
    obtain ⟨b, o, e, -, hx⟩ := H1.out.2.2.2.2.1.2 (by omega)
    cases e
    have := hx (h - 1) (.int .i64 v0) (by simp [iv, hv0])
    rwa [Nat.zero_add] at this
  have hgkl : gk < w1.heap.size := by obtain ⟨b, o, e, hb, -⟩ := H1.out.2.2.2.1.2 (by omega); cases e; exact hb
  have hgvl : gv < w1.heap.size := by obtain ⟨b, o, e, hb, -⟩ := H1.out.2.2.2.2.1.2 (by omega); cases e; exact hb
  have HC := Lib.hid (And.intro hk0 (And.intro hv0 (And.intro hck0 (And.intro hcv0 (And.intro hgkl hgvl)))))
  have hS6 : W5.drew.cell? ⟨bn, 1, none⟩ = some vk ∧ W5.drew.cell? ⟨bk, 1, none⟩ = some (.slice (some ⟨gk, 0, none⟩) (2 * h - 1) ck) ∧ W5.drew.cell? ⟨gk, h - 1, none⟩ = some (.int .i64 k0) := by
    have h9 := H1.out.2.2.1.grew H5.out.2.2.2.1
    rw [hf, hkv] at h9
    exact ⟨hV.blk.drew.cell 1, h9.drew.cell 1, (H5.out.2.2.2.1.cell (p := ⟨gk, h - 1, none⟩) hgkl id).trans hck0⟩
  have HV := Lib.hid hV
  clear hk0 hv0 hV hck0 hcv0 hgkl hgvl
  have hh1 : IntKind.i64.wrap ((h : Int) - 1) = ((h - 1 : Nat) : Int) := by rw [IntWalk.i64_in _ ⟨by omega, by omega⟩]; omega
  have hh2 : h - 1 < 2 * h - 1 := by omega
  go_wp2_with fail
  refine wp_region_x [18] (S := fun w' => w'.cell? ⟨bn, 1, none⟩ = some vk ∧ w'.cell? ⟨bk, 1, none⟩ = some (.slice (some ⟨gk, 0, none⟩) (2 * h - 1) ck) ∧ w'.cell? ⟨gk, h - 1, none⟩ = some (.int .i64 k0)) (by kernel_rfl) hS6 (fun hHeld => ?_)
  refine wpAnyX_take (i := 0) (v := ?_) rfl (by kernel_rfl) (by kernel_rfl) (by kernel_rfl) (by kernel_rfl) (fun _ _ _ h => h) (Or.inl ⟨by rfl, ?_⟩) hHeld ?_
  rotate_left
  · (intro w hSw; (try dsimp only at hSw); go_simp) <;> with_reducible rfl
  (try simp only [Act.put, List.setIfInBounds_toArray, List.set_cons_zero, List.set_cons_succ, List.getElem_toArray, List.getElem_cons_zero, List.getElem_cons_succ])
  refine wpAnyX_take (i := 1) (v := ?_) rfl (by kernel_rfl) (by kernel_rfl) (by kernel_rfl) (by kernel_rfl) (fun _ _ _ h => h) (Or.inl ⟨by rfl, ?_⟩) hHeld ?_
  rotate_left
  · (intro w hSw; (try dsimp only at hSw); go_simp) <;> with_reducible rfl
  (try simp only [Act.put, List.setIfInBounds_toArray, List.set_cons_zero, List.set_cons_succ, List.getElem_toArray, List.getElem_cons_zero, List.getElem_cons_succ])
  refine wpAnyX_take (i := 2) (v := ?_) rfl (by kernel_rfl) (by kernel_rfl) (by kernel_rfl) (by kernel_rfl) (fun _ _ _ h => h) (Or.inl ⟨by rfl, ?_⟩) hHeld ?_
  rotate_left
  · (intro w hSw; (try dsimp only at hSw); go_simp) <;> with_reducible rfl
  (try simp only [Act.put, List.setIfInBounds_toArray, List.set_cons_zero, List.set_cons_succ, List.getElem_toArray, List.getElem_cons_zero, List.getElem_cons_succ])
  refine wpAnyX_take (i := 3) (v := ?_) rfl (by kernel_rfl) (by kernel_rfl) (by kernel_rfl) (by kernel_rfl) (fun _ _ _ h => h) (Or.inl ⟨by rfl, ?_⟩) hHeld ?_
  rotate_left
  · (intro w hSw; (try dsimp only at hSw); go_simp) <;> with_reducible rfl
  (try simp only [Act.put, List.setIfInBounds_toArray, List.set_cons_zero, List.set_cons_succ, List.getElem_toArray, List.getElem_cons_zero, List.getElem_cons_succ])
  refine wpAnyX_take (i := 4) (v := ?_) rfl (by kernel_rfl) (by kernel_rfl) (by kernel_rfl) (by kernel_rfl) (fun _ _ _ h => h) (Or.inl ⟨by rfl, ?_⟩) hHeld ?_
  rotate_left
  · (intro w hSw; (try dsimp only at hSw); go_simp) <;> with_reducible rfl
  (try simp only [Act.put, List.setIfInBounds_toArray, List.set_cons_zero, List.set_cons_succ, List.getElem_toArray, List.getElem_cons_zero, List.getElem_cons_succ])
  refine wpAnyX_take (i := 5) (v := ?_) rfl (by kernel_rfl) (by kernel_rfl) (by kernel_rfl) (by kernel_rfl) (fun _ _ _ h => h) (Or.inl ⟨by rfl, ?_⟩) hHeld ?_
  rotate_left
  · (intro w hSw; (try dsimp only at hSw); go_simp) <;> with_reducible rfl
  (try simp only [Act.put, List.setIfInBounds_toArray, List.set_cons_zero, List.set_cons_succ, List.getElem_toArray, List.getElem_cons_zero, List.getElem_cons_succ])
  refine wpAnyX_take (i := 6) (v := ?_) rfl (by kernel_rfl) (by kernel_rfl) (by kernel_rfl) (by kernel_rfl) (fun _ _ _ h => h) (Or.inl ⟨by rfl, ?_⟩) hHeld ?_
  rotate_left
  · (intro w hSw; (try dsimp only at hSw); go_simp) <;> with_reducible rfl
  (try simp only [Act.put, List.setIfInBounds_toArray, List.set_cons_zero, List.set_cons_succ, List.getElem_toArray, List.getElem_cons_zero, List.getElem_cons_succ])
  refine wpAnyX_take (i := 7) (v := ?_) rfl (by kernel_rfl) (by kernel_rfl) (by kernel_rfl) (by kernel_rfl) (fun _ _ _ h => h) (Or.inl ⟨by rfl, ?_⟩) hHeld ?_
  rotate_left
  · (intro w hSw; (try dsimp only at hSw); go_simp) <;> with_reducible rfl
  (try simp only [Act.put, List.setIfInBounds_toArray, List.set_cons_zero, List.set_cons_succ, List.getElem_toArray, List.getElem_cons_zero, List.getElem_cons_succ])
  refine wpAnyX_take (i := 8) (v := ?_) rfl (by kernel_rfl) (by kernel_rfl) (by kernel_rfl) (by kernel_rfl) (fun _ _ _ h => h) (Or.inl ⟨by rfl, ?_⟩) hHeld ?_
  rotate_left
  · (intro w hSw; (try dsimp only at hSw); go_simp) <;> with_reducible rfl
  (try simp only [Act.put, List.setIfInBounds_toArray, List.set_cons_zero, List.set_cons_succ, List.getElem_toArray, List.getElem_cons_zero, List.getElem_cons_succ])
  refine wpAnyX_take (i := 9) (v := ?_) rfl (by kernel_rfl) (by kernel_rfl) (by kernel_rfl) (by kernel_rfl) (fun _ _ _ h => h) (Or.inl ⟨by rfl, ?_⟩) hHeld ?_
  rotate_left
  · (intro w hSw; (try dsimp only at hSw); go_simp) <;> with_reducible rfl
  (try simp only [Act.put, List.setIfInBounds_toArray, List.set_cons_zero, List.set_cons_succ, List.getElem_toArray, List.getElem_cons_zero, List.getElem_cons_succ])
  refine wpAnyX_take (i := 10) (v := ?_) rfl (by kernel_rfl) (by kernel_rfl) (by kernel_rfl) (by kernel_rfl) (fun _ _ _ h => h) (Or.inl ⟨by rfl, ?_⟩) hHeld ?_
  rotate_left
  · (intro w hSw; (try dsimp only at hSw); go_simp) <;> with_reducible rfl
  (try simp only [Act.put, List.setIfInBounds_toArray, List.set_cons_zero, List.set_cons_succ, List.getElem_toArray, List.getElem_cons_zero, List.getElem_cons_succ])
  refine wpAnyX_take (i := 11) (v := ?_) rfl (by kernel_rfl) (by kernel_rfl) (by kernel_rfl) (by kernel_rfl) (fun _ _ _ h => h) (Or.inl ⟨by rfl, ?_⟩) hHeld ?_
  rotate_left
  · (intro w hSw; (try dsimp only at hSw); go_simp) <;> with_reducible rfl
  (try simp only [Act.put, List.setIfInBounds_toArray, List.set_cons_zero, List.set_cons_succ, List.getElem_toArray, List.getElem_cons_zero, List.getElem_cons_succ])
  refine wpAnyX_take (i := 12) (v := ?_) rfl (by kernel_rfl) (by kernel_rfl) (by kernel_rfl) (by kernel_rfl) (fun _ _ _ h => h) (Or.inl ⟨by rfl, ?_⟩) hHeld ?_
  rotate_left
  · (intro w hSw; (try dsimp only at hSw); go_simp) <;> with_reducible rfl
  (try simp only [Act.put, List.setIfInBounds_toArray, List.set_cons_zero, List.set_cons_succ, List.getElem_toArray, List.getElem_cons_zero, List.getElem_cons_succ])
  refine wpAnyX_take (i := 13) (v := ?_) rfl (by kernel_rfl) (by kernel_rfl) (by kernel_rfl) (by kernel_rfl) (fun _ _ _ h => h) (Or.inl ⟨by rfl, ?_⟩) hHeld ?_
  rotate_left
  · (intro w hSw; (try dsimp only at hSw); go_simp) <;> with_reducible rfl
  (try simp only [Act.put, List.setIfInBounds_toArray, List.set_cons_zero, List.set_cons_succ, List.getElem_toArray, List.getElem_cons_zero, List.getElem_cons_succ])
  refine wpAnyX_ready (rs := [14]) (by kernel_rfl) (by simp) ?_
  refine AllReadyX.cons rfl (fun K hK => ?_) AllReadyX.nil
  go_simp
  obtain ⟨W6, hW6⟩ : ∃ W, (W5.alloc (.cells #[.int .i64 k0] 3)).drew = W := ⟨_, rfl⟩
  rw [hW6]
  have hg56 : Grew W5 W6 := hW6 ▸ ((Chg.refl _ _).alloc _).drew
  have hlit : Blk W6 W5.heap.size 3 #[.int .i64 k0] := hW6 ▸ (Blk.new _ _ _).drew
  have hV6 := HV.out.chg hg56 fun _ _ => id
  have hsz6 := hg56.size
  have hnl6 : nd.keys.length ≤ 1000 := by omega
  have hins := binsert_any 1 vk nd.keys i W5.heap.size k0 W6 (by have := hV6.rk; rwa [iv_len] at this) (by omega) hi hlit (fun e => by have := HV.out.lt _ (HV.out.nk _ e); omega) (by have := tab_pos H5.out.2.1.bt.gp.tab; omega)
  have hS6' : W6.cell? ⟨bn, 1, none⟩ = some vk ∧ W6.cell? ⟨bk, 1, none⟩ = some (.slice (some ⟨gk, 0, none⟩) (2 * h - 1) ck) ∧ W6.cell? ⟨gk, h - 1, none⟩ = some (.int .i64 k0) := by
    have h9 := H1.out.2.2.1.grew (Grew.trans H5.out.2.2.2.1 hg56)
    rw [hf, hkv] at h9
    exact ⟨hV6.blk.cell 1, h9.cell 1, ((Grew.trans H5.out.2.2.2.1 hg56).cell (p := ⟨gk, h - 1, none⟩) HC.out.2.2.2.2.1 id).trans HC.out.2.2.1⟩
  have H6 := Lib.hid (And.intro hins (And.intro hV6 (And.intro hg56 hsz6)))
  clear hins hV6 hg56 hlit hsz6 hW6
  refine hK.out _ _ (fun _ => hS6') ?_
  clear hK K
  (try simp only [Act.put, List.setIfInBounds_toArray, List.set_cons_zero, List.set_cons_succ, List.getElem_toArray, List.getElem_cons_zero, List.getElem_cons_succ])
  refine wpAnyX_ready (rs := [15]) (by kernel_rfl) (by simp) ?_
  refine AllReadyX.cons rfl (fun K hK => ?_) AllReadyX.nil
  go_simp
  refine H6.out.1.mono ?_
  rintro e w7 ⟨v7, rfl, ho7, ha7⟩
  obtain ⟨A7, c7, rfl, -⟩ := own_shape ho7
  have hne7 := H6.out.2.1.ne
  have hb7 := H6.out.2.1.blk.chg ha7.chg hne7.1
  have hown1 : ∀ g, vk.ownBlock = some g → N1 g := HV.out.nk
  have hS7 : w7.cell? ⟨bn, 1, none⟩ = some vk ∧ w7.cell? ⟨bk, 1, none⟩ = some (.slice (some ⟨gk, 0, none⟩) (2 * h - 1) ck) ∧ w7.cell? ⟨gk, h - 1, none⟩ = some (.int .i64 k0) := by
    have h9 := (H1.out.2.2.1.grew (Grew.trans H5.out.2.2.2.1 H6.out.2.2.1)).chg ha7.chg fun e => H.out.2.2.1.d12 _ (hown1 _ e) H1.out.2.2.2.2.2.2.1
    rw [hf, hkv] at h9
    refine ⟨hb7.cell 1, h9.cell 1, ?_⟩
    have hl := HC.out.2.2.2.2.1
    have hsz := H6.out.2.2.2
    have hsz5 := H5.out.2.2.2.1.size
    exact (ha7.chg.cell (p := ⟨gk, h - 1, none⟩) (show gk < W6.heap.size by omega) fun e => H.out.2.2.1.d12 _ (hown1 _ e) H1.out.2.2.2.2.2.2.2.1).trans hS6'.2.2
  have hsp7 := (H5.out.2.1.grew H6.out.2.2.1).ap ha7 hown1 fun g hg => (ho7.lt g hg).2
  obtain ⟨d9, f9, s9⟩ := hb7.facts
  have hl7 : (iv (insI nd.keys i k0)).length = nd.keys.length + 1 := by rw [iv_len, insI_len k0 hi]
  have H7 := Lib.hid (And.intro hsp7 (And.intro ho7 (And.intro ha7 hl7)))
  clear hsp7 ho7 ha7 hb7 hown1 hne7 hl7
  refine hK.out _ _ (fun _ => hS7) ?_
  clear hK K
  (try simp only [Act.put, List.setIfInBounds_toArray, List.set_cons_zero, List.set_cons_succ, List.getElem_toArray, List.getElem_cons_zero, List.getElem_cons_succ])
  refine wpAnyX_takeM [17] (i := 16) (v := ?_) rfl (by kernel_rfl) (by kernel_rfl) (by kernel_rfl) (by kernel_rfl) (by kernel_rfl) (by kernel_rfl) (fun _ _ _ h => h) (Or.inl ⟨by rfl, ?_⟩) hS7 ?_
  rotate_left
  · (intro w hSw; (try dsimp only at hSw); go_simp) <;> with_reducible rfl
  (try simp only [Act.put, List.setIfInBounds_toArray, List.set_cons_zero, List.set_cons_succ, List.getElem_toArray, List.getElem_cons_zero, List.getElem_cons_succ])
  refine wpAnyX_take (i := 17) (v := ?_) rfl (by kernel_rfl) (by kernel_rfl) (by kernel_rfl) (by kernel_rfl) (fun _ _ _ h => h) (Or.inl ⟨by rfl, ?_⟩) hS7 ?_
  rotate_left
  · (intro w hSw; (try dsimp only at hSw); go_simp) <;> with_reducible rfl
  (try simp only [Act.put, List.setIfInBounds_toArray, List.set_cons_zero, List.set_cons_succ, List.getElem_toArray, List.getElem_cons_zero, List.getElem_cons_succ])
  refine wpAnyX_ready (rs := [18]) (by kernel_rfl) (by simp) ?_
  refine AllReadyX.cons rfl (fun K hK => ?_) AllReadyX.nil
  go_simp
  refine hK.out _ _ (fun h => by cases h) ?_
  clear hK K
  (try simp only [Act.put, List.setIfInBounds_toArray, List.set_cons_zero, List.set_cons_succ, List.getElem_toArray, List.getElem_cons_zero, List.getElem_cons_succ])
  refine wpAnyX_done (by kernel_rfl) ?_ _
  obtain ⟨W8, hW8⟩ : ∃ W, w7.setCell ⟨bn, 1, none⟩ (.slice A7 (nd.keys.length + 1) c7) = W := ⟨_, rfl⟩
  rw [hW8]
  have hV8 := H6.out.2.1.setK H7.out.2.2.1 (by rw [H7.out.2.2.2]; exact H7.out.2.1) hW8
  have hc8 : Chg (fun j => j = bn) w7 W8 := hW8 ▸ (Chg.refl (fun j => j = bn) w7).setCell (p := ⟨bn, 1, none⟩) (fun _ => rfl) _
  have hsp8 := H7.out.1.st hc8 (.inl HV.out.nb)
  have H8 := Lib.hid (And.intro hV8 (And.intro hsp8 hc8))
  clear hHeld hS6 hS6' hS7 hV8 hsp8 hc8 hW8 d9 f9 s9
  have hg58 : Chg (fun j => N1 j ∨ (Value.slice A7 (nd.keys.length + 1) c7).ownBlock = some j) W5 W8 := Chg.trans (Grew.then H6.out.2.2.1 (H7.out.2.2.1.chg.mono fun j _ e => .inl (HV.out.nk j e))) (H8.out.2.2) fun j _ e => by subst e; exact .inl HV.out.nb
  have hbk8 := H8.out.2.1.kd.rows (by omega) (by omega)
  have hbq : Blk W8 bk 73 #[.int .i64 qk, .slice (some ⟨gk, 0, none⟩) (2 * h - 1) ck, .slice (some ⟨gv, 0, none⟩) (2 * h - 1) cv, .slice Ac kd.kids.length cc] := by
    have h9 := (H1.out.2.2.1.grew H5.out.2.2.2.1).chg hg58 fun e => e.elim (fun e => H.out.2.2.1.d12 _ e H1.out.2.2.2.2.2.2.1) fun e => by
      rcases H7.out.2.2.1.at_ _ e with e2 | e2
      · exact H.out.2.2.1.d12 _ (HV.out.nk _ e2) H1.out.2.2.2.2.2.2.1
      · have := H1.out.2.2.1.lt; have := H5.out.2.2.2.1.size; have := H6.out.2.2.2; omega
    rw [hf, hkv] at h9
    exact h9
  have hgv8 : W8.cell? ⟨gv, h - 1, none⟩ = some (.int .i64 v0) := by
    have h9 := (H5.out.2.2.2.1.cell (p := ⟨gv, h - 1, none⟩) HC.out.2.2.2.2.2 id).trans HC.out.2.2.2.1
    have hl := HC.out.2.2.2.2.2
    have hz5 := H5.out.2.2.2.1.size
    have hz6 := H6.out.2.2.2
    refine (hg58.cell (p := ⟨gv, h - 1, none⟩) (show gv < W5.heap.size by omega) fun e => e.elim (fun e => H.out.2.2.1.d12 _ e H1.out.2.2.2.2.2.2.2.2.1) fun e => ?_).trans h9
    rcases H7.out.2.2.1.at_ _ e with e2 | e2
    · exact H.out.2.2.1.d12 _ (HV.out.nk _ e2) H1.out.2.2.2.2.2.2.2.2.1
    · have e3 : W6.heap.size ≤ gv := e2
      omega
  have H8b := Lib.hid (And.intro hg58 (And.intro hbq hgv8))
  have hS9 : W8.drew.cell? ⟨bn, 2, none⟩ = some vv ∧ W8.drew.cell? ⟨bk, 2, none⟩ = some (.slice (some ⟨gv, 0, none⟩) (2 * h - 1) cv) ∧ W8.drew.cell? ⟨gv, h - 1, none⟩ = some (.int .i64 v0) := ⟨H8.out.1.blk.drew.cell 2, hbq.drew.cell 2, hgv8⟩
  clear hg58 hbk8 hbq hgv8
  go_wp2_with fail
  refine wp_region_x [18] (S := fun w' => w'.cell? ⟨bn, 2, none⟩ = some vv ∧ w'.cell? ⟨bk, 2, none⟩ = some (.slice (some ⟨gv, 0, none⟩) (2 * h - 1) cv) ∧ w'.cell? ⟨gv, h - 1, none⟩ = some (.int .i64 v0)) (by kernel_rfl) hS9 (fun hHeld => ?_)
  refine wpAnyX_take (i := 0) (v := ?_) rfl (by kernel_rfl) (by kernel_rfl) (by kernel_rfl) (by kernel_rfl) (fun _ _ _ h => h) (Or.inl ⟨by rfl, ?_⟩) hHeld ?_
  rotate_left
  · (intro w hSw; (try dsimp only at hSw); go_simp) <;> with_reducible rfl
  (try simp only [Act.put, List.setIfInBounds_toArray, List.set_cons_zero, List.set_cons_succ, List.getElem_toArray, List.getElem_cons_zero, List.getElem_cons_succ])
  refine wpAnyX_take (i := 1) (v := ?_) rfl (by kernel_rfl) (by kernel_rfl) (by kernel_rfl) (by kernel_rfl) (fun _ _ _ h => h) (Or.inl ⟨by rfl, ?_⟩) hHeld ?_
  rotate_left
  · (intro w hSw; (try dsimp only at hSw); go_simp) <;> with_reducible rfl
  (try simp only [Act.put, List.setIfInBounds_toArray, List.set_cons_zero, List.set_cons_succ, List.getElem_toArray, List.getElem_cons_zero, List.getElem_cons_succ])
  refine wpAnyX_take (i := 2) (v := ?_) rfl (by kernel_rfl) (by kernel_rfl) (by kernel_rfl) (by kernel_rfl) (fun _ _ _ h => h) (Or.inl ⟨by rfl, ?_⟩) hHeld ?_
  rotate_left
  · (intro w hSw; (try dsimp only at hSw); go_simp) <;> with_reducible rfl
  (try simp only [Act.put, List.setIfInBounds_toArray, List.set_cons_zero, List.set_cons_succ, List.getElem_toArray, List.getElem_cons_zero, List.getElem_cons_succ])
  refine wpAnyX_take (i := 3) (v := ?_) rfl (by kernel_rfl) (by kernel_rfl) (by kernel_rfl) (by kernel_rfl) (fun _ _ _ h => h) (Or.inl ⟨by rfl, ?_⟩) hHeld ?_
  rotate_left
  · (intro w hSw; (try dsimp only at hSw); go_simp) <;> with_reducible rfl
  (try simp only [Act.put, List.setIfInBounds_toArray, List.set_cons_zero, List.set_cons_succ, List.getElem_toArray, List.getElem_cons_zero, List.getElem_cons_succ])
  refine wpAnyX_take (i := 4) (v := ?_) rfl (by kernel_rfl) (by kernel_rfl) (by kernel_rfl) (by kernel_rfl) (fun _ _ _ h => h) (Or.inl ⟨by rfl, ?_⟩) hHeld ?_
  rotate_left
  · (intro w hSw; (try dsimp only at hSw); go_simp) <;> with_reducible rfl
  (try simp only [Act.put, List.setIfInBounds_toArray, List.set_cons_zero, List.set_cons_succ, List.getElem_toArray, List.getElem_cons_zero, List.getElem_cons_succ])
  refine wpAnyX_take (i := 5) (v := ?_) rfl (by kernel_rfl) (by kernel_rfl) (by kernel_rfl) (by kernel_rfl) (fun _ _ _ h => h) (Or.inl ⟨by rfl, ?_⟩) hHeld ?_
  rotate_left
  · (intro w hSw; (try dsimp only at hSw); go_simp) <;> with_reducible rfl
  (try simp only [Act.put, List.setIfInBounds_toArray, List.set_cons_zero, List.set_cons_succ, List.getElem_toArray, List.getElem_cons_zero, List.getElem_cons_succ])
  refine wpAnyX_take (i := 6) (v := ?_) rfl (by kernel_rfl) (by kernel_rfl) (by kernel_rfl) (by kernel_rfl) (fun _ _ _ h => h) (Or.inl ⟨by rfl, ?_⟩) hHeld ?_
  rotate_left
  · (intro w hSw; (try dsimp only at hSw); go_simp) <;> with_reducible rfl
  (try simp only [Act.put, List.setIfInBounds_toArray, List.set_cons_zero, List.set_cons_succ, List.getElem_toArray, List.getElem_cons_zero, List.getElem_cons_succ])
  refine wpAnyX_take (i := 7) (v := ?_) rfl (by kernel_rfl) (by kernel_rfl) (by kernel_rfl) (by kernel_rfl) (fun _ _ _ h => h) (Or.inl ⟨by rfl, ?_⟩) hHeld ?_
  rotate_left
  · (intro w hSw; (try dsimp only at hSw); go_simp) <;> with_reducible rfl
  (try simp only [Act.put, List.setIfInBounds_toArray, List.set_cons_zero, List.set_cons_succ, List.getElem_toArray, List.getElem_cons_zero, List.getElem_cons_succ])
  refine wpAnyX_take (i := 8) (v := ?_) rfl (by kernel_rfl) (by kernel_rfl) (by kernel_rfl) (by kernel_rfl) (fun _ _ _ h => h) (Or.inl ⟨by rfl, ?_⟩) hHeld ?_
  rotate_left
  · (intro w hSw; (try dsimp only at hSw); go_simp) <;> with_reducible rfl
  (try simp only [Act.put, List.setIfInBounds_toArray, List.set_cons_zero, List.set_cons_succ, List.getElem_toArray, List.getElem_cons_zero, List.getElem_cons_succ])
  refine wpAnyX_take (i := 9) (v := ?_) rfl (by kernel_rfl) (by kernel_rfl) (by kernel_rfl) (by kernel_rfl) (fun _ _ _ h => h) (Or.inl ⟨by rfl, ?_⟩) hHeld ?_
  rotate_left
  · (intro w hSw; (try dsimp only at hSw); go_simp) <;> with_reducible rfl
  (try simp only [Act.put, List.setIfInBounds_toArray, List.set_cons_zero, List.set_cons_succ, List.getElem_toArray, List.getElem_cons_zero, List.getElem_cons_succ])
  refine wpAnyX_take (i := 10) (v := ?_) rfl (by kernel_rfl) (by kernel_rfl) (by kernel_rfl) (by kernel_rfl) (fun _ _ _ h => h) (Or.inl ⟨by rfl, ?_⟩) hHeld ?_
  rotate_left
  · (intro w hSw; (try dsimp only at hSw); go_simp) <;> with_reducible rfl
  (try simp only [Act.put, List.setIfInBounds_toArray, List.set_cons_zero, List.set_cons_succ, List.getElem_toArray, List.getElem_cons_zero, List.getElem_cons_succ])
  refine wpAnyX_take (i := 11) (v := ?_) rfl (by kernel_rfl) (by kernel_rfl) (by kernel_rfl) (by kernel_rfl) (fun _ _ _ h => h) (Or.inl ⟨by rfl, ?_⟩) hHeld ?_
  rotate_left
  · (intro w hSw; (try dsimp only at hSw); go_simp) <;> with_reducible rfl
  (try simp only [Act.put, List.setIfInBounds_toArray, List.set_cons_zero, List.set_cons_succ, List.getElem_toArray, List.getElem_cons_zero, List.getElem_cons_succ])
  refine wpAnyX_take (i := 12) (v := ?_) rfl (by kernel_rfl) (by kernel_rfl) (by kernel_rfl) (by kernel_rfl) (fun _ _ _ h => h) (Or.inl ⟨by rfl, ?_⟩) hHeld ?_
  rotate_left
  · (intro w hSw; (try dsimp only at hSw); go_simp) <;> with_reducible rfl
  (try simp only [Act.put, List.setIfInBounds_toArray, List.set_cons_zero, List.set_cons_succ, List.getElem_toArray, List.getElem_cons_zero, List.getElem_cons_succ])
  refine wpAnyX_take (i := 13) (v := ?_) rfl (by kernel_rfl) (by kernel_rfl) (by kernel_rfl) (by kernel_rfl) (fun _ _ _ h => h) (Or.inl ⟨by rfl, ?_⟩) hHeld ?_
  rotate_left
  · (intro w hSw; (try dsimp only at hSw); go_simp) <;> with_reducible rfl
  (try simp only [Act.put, List.setIfInBounds_toArray, List.set_cons_zero, List.set_cons_succ, List.getElem_toArray, List.getElem_cons_zero, List.getElem_cons_succ])
  refine wpAnyX_ready (rs := [14]) (by kernel_rfl) (by simp) ?_
  refine AllReadyX.cons rfl (fun K hK => ?_) AllReadyX.nil
  go_simp
  obtain ⟨W9, hW9⟩ : ∃ W, (W8.alloc (.cells #[.int .i64 v0] 3)).drew = W := ⟨_, rfl⟩
  rw [hW9]
  have hg89 : Grew W8 W9 := hW9 ▸ ((Chg.refl _ _).alloc _).drew
  have hlit : Blk W9 W8.heap.size 3 #[.int .i64 v0] := hW9 ▸ (Blk.new _ _ _).drew
  have hV9 := H8.out.1.chg hg89 fun _ _ => id
  have hsz9 := hg89.size
  have hins := binsert_any 1 vv nd.vals i W8.heap.size v0 W9 (by have := hV9.rv; rwa [iv_len] at this) (by omega) (by omega) hlit (fun e => by have := H8.out.1.lt _ (H8.out.1.nv _ e); omega) (by have := tab_pos H8.out.2.1.bt.gp.tab; omega)
  have hS9' : W9.cell? ⟨bn, 2, none⟩ = some vv ∧ W9.cell? ⟨bk, 2, none⟩ = some (.slice (some ⟨gv, 0, none⟩) (2 * h - 1) cv) ∧ W9.cell? ⟨gv, h - 1, none⟩ = some (.int .i64 v0) := by
    have hl := HC.out.2.2.2.2.2
    have hz5 := H5.out.2.2.2.1.size
    have hz8 := H8b.out.1.size
    exact ⟨hV9.blk.cell 2, (H8b.out.2.1.grew hg89).cell 2, (hg89.cell (p := ⟨gv, h - 1, none⟩) (show gv < W8.heap.size by omega) id).trans H8b.out.2.2⟩
  have H9 := Lib.hid (And.intro hins (And.intro hV9 (And.intro hg89 hsz9)))
  clear hins hV9 hg89 hlit hsz9 hW9
  refine hK.out _ _ (fun _ => hS9') ?_
  clear hK K
  (try simp only [Act.put, List.setIfInBounds_toArray, List.set_cons_zero, List.set_cons_succ, List.getElem_toArray, List.getElem_cons_zero, List.getElem_cons_succ])
  refine wpAnyX_ready (rs := [15]) (by kernel_rfl) (by simp) ?_
  refine AllReadyX.cons rfl (fun K hK => ?_) AllReadyX.nil
  go_simp
  refine H9.out.1.mono ?_
  rintro e w10 ⟨v10, rfl, ho10, ha10⟩
  obtain ⟨A10, c10, rfl, -⟩ := own_shape ho10
  have hne10 := H9.out.2.1.ne
  have hb10 := H9.out.2.1.blk.chg ha10.chg hne10.2.1
  have hown1 : ∀ g, vv.ownBlock = some g → (N1 g ∨ (Value.slice A7 (nd.keys.length + 1) c7).ownBlock = some g) := H8.out.1.nv
  have hd12 := H8.out.2.1.d12
  have hS10 : w10.cell? ⟨bn, 2, none⟩ = some vv ∧ w10.cell? ⟨bk, 2, none⟩ = some (.slice (some ⟨gv, 0, none⟩) (2 * h - 1) cv) ∧ w10.cell? ⟨gv, h - 1, none⟩ = some (.int .i64 v0) := by
    have h9 := (H8b.out.2.1.grew H9.out.2.2.1).chg ha10.chg fun e => hd12 _ (hown1 _ e) H1.out.2.2.2.2.2.2.1
    refine ⟨hb10.cell 2, h9.cell 2, ?_⟩
    have hl := HC.out.2.2.2.2.2
    have hz5 := H5.out.2.2.2.1.size
    have hz8 := H8b.out.1.size
    have hz9 := H9.out.2.2.2
    exact (ha10.chg.cell (p := ⟨gv, h - 1, none⟩) (show gv < W9.heap.size by omega) fun e => hd12 _ (hown1 _ e) H1.out.2.2.2.2.2.2.2.2.1).trans hS9'.2.2
  have hsp10 := (H8.out.2.1.grew H9.out.2.2.1).ap ha10 hown1 fun g hg => (ho10.lt g hg).2
  obtain ⟨d9, f9, s9⟩ := hb10.facts
  have hl10 : (iv (insI nd.vals i v0)).length = nd.vals.length + 1 := by rw [iv_len, insI_len v0 (by omega)]
  have H10 := Lib.hid (And.intro hsp10 (And.intro ho10 (And.intro ha10 hl10)))
  clear hsp10 ho10 ha10 hb10 hown1 hne10 hl10 hd12
  refine hK.out _ _ (fun _ => hS10) ?_
  clear hK K
  (try simp only [Act.put, List.setIfInBounds_toArray, List.set_cons_zero, List.set_cons_succ, List.getElem_toArray, List.getElem_cons_zero, List.getElem_cons_succ])
  refine wpAnyX_takeM [17] (i := 16) (v := ?_) rfl (by kernel_rfl) (by kernel_rfl) (by kernel_rfl) (by kernel_rfl) (by kernel_rfl) (by kernel_rfl) (fun _ _ _ h => h) (Or.inl ⟨by rfl, ?_⟩) hS10 ?_
  rotate_left
  · (intro w hSw; (try dsimp only at hSw); go_simp) <;> with_reducible rfl
  (try simp only [Act.put, List.setIfInBounds_toArray, List.set_cons_zero, List.set_cons_succ, List.getElem_toArray, List.getElem_cons_zero, List.getElem_cons_succ])
  refine wpAnyX_take (i := 17) (v := ?_) rfl (by kernel_rfl) (by kernel_rfl) (by kernel_rfl) (by kernel_rfl) (fun _ _ _ h => h) (Or.inl ⟨by rfl, ?_⟩) hS10 ?_
  rotate_left
  · (intro w hSw; (try dsimp only at hSw); go_simp) <;> with_reducible rfl
  (try simp only [Act.put, List.setIfInBounds_toArray, List.set_cons_zero, List.set_cons_succ, List.getElem_toArray, List.getElem_cons_zero, List.getElem_cons_succ])
  refine wpAnyX_ready (rs := [18]) (by kernel_rfl) (by simp) ?_
  refine AllReadyX.cons rfl (fun K hK => ?_) AllReadyX.nil
  go_simp
  refine hK.out _ _ (fun h => by cases h) ?_
  clear hK K
  (try simp only [Act.put, List.setIfInBounds_toArray, List.set_cons_zero, List.set_cons_succ, List.getElem_toArray, List.getElem_cons_zero, List.getElem_cons_succ])
  refine wpAnyX_done (by kernel_rfl) ?_ _
  obtain ⟨W11, hW11⟩ : ∃ W, w10.setCell ⟨bn, 2, none⟩ (.slice A10 (nd.vals.length + 1) c10) = W := ⟨_, rfl⟩
  rw [hnv] at hW11
  rw [hW11]
  have hV11 := NdV.setV (W2 := W11) H9.out.2.1 H10.out.2.2.1 (by rw [H10.out.2.2.2]; exact H10.out.2.1) (by rw [hnv]; exact hW11)
  have hc11 : Chg (fun j => j = bn) w10 W11 := hW11 ▸ (Chg.refl (fun j => j = bn) w10).setCell (p := ⟨bn, 2, none⟩) (fun _ => rfl) _
  have hsp11 := H10.out.1.st hc11 (.inl (.inl HV.out.nb))
  have H11 := Lib.hid (And.intro hV11 (And.intro hsp11 hc11))
  clear hHeld hS9 hS9' hS10 hV11 hsp11 hc11 hW11 d9 f9 s9
  obtain ⟨d9, f9, s9⟩ := H11.out.1.blk.facts
  obtain ⟨W12, hW12⟩ : ∃ W, W11.alloc (.cells #[.int .i64 r] 3) = W := ⟨_, rfl⟩
  have hg12 : Grew W11 W12 := hW12 ▸ (Chg.refl _ _).alloc _
  have hlit : Blk W12 W11.heap.size 3 #[.int .i64 r] := hW12 ▸ Blk.new _ _ _
  have hV12 := H11.out.1.chg hg12 fun _ _ => id
  have hiv : nv nd.kids = iv (nd.kids.map Int.ofNat) := by simp [nv, iv]
  have hlc : (nd.kids.map Int.ofNat).length = nd.kids.length := by simp
  have hins := binsert_any 1 vc (nd.kids.map Int.ofNat) (i + 1) W11.heap.size r W12 (by have h9 := hV12.rc; rw [hiv, iv_len] at h9; exact h9) (by omega) (by omega) hlit (fun e => by have := H11.out.1.lt _ (H11.out.1.nc _ e); omega) (by have := tab_pos H11.out.2.1.bt.gp.tab; have := hg12.size; omega)
  rw [show ((i + 1 : Nat) : Int) = (i : Int) + 1 from by omega] at hins
  have H12 := Lib.hid (And.intro hins (And.intro hV12 (And.intro hg12 hW12)))
  clear hins hV12 hg12 hlit hW12 hiv hlc
  go_wp2_with fail
  rw [H12.out.2.2.2]
  refine H12.out.1.mono ?_
  rintro e w13 ⟨v13, rfl, ho13, ha13⟩
  rw [List.length_map] at ho13
  obtain ⟨A13, c13, rfl, -⟩ := own_shape ho13
  have hl13 : (iv (insI (nd.kids.map Int.ofNat) (i + 1) (r : Int))).length = nd.kids.length + 1 := by rw [iv_len, insI_len _ (by rw [List.length_map]; omega), List.length_map]
  have hb13 := H12.out.2.1.blk.chg ha13.chg H12.out.2.1.ne.2.2
  have hownN : ∀ g, vc.ownBlock = some g → ((N1 g ∨ (Value.slice A7 (nd.keys.length + 1) c7).ownBlock = some g) ∨ (Value.slice A10 (nd.vals.length + 1) c10).ownBlock = some g) := H11.out.1.nc
  have hsp13 := (H11.out.2.1.grew H12.out.2.2.1).ap ha13 hownN fun g hg => (ho13.lt g hg).2
  obtain ⟨W14, hW14⟩ : ∃ W, w13.setCell ⟨bn, 3, none⟩ (.slice A13 (nd.kids.length + 1) c13) = W := ⟨_, rfl⟩
  have hV14 := NdV.setC (W2 := W14) H12.out.2.1 ha13 (by rw [hl13]; exact ho13) hW14
  have hc14 : Chg (fun j => j = bn) w13 W14 := hW14 ▸ (Chg.refl (fun j => j = bn) w13).setCell (p := ⟨bn, 3, none⟩) (fun _ => rfl) _
  have hsp14 := hsp13.st hc14 (.inl (.inl (.inl HV.out.nb)))
  clear d9 f9 s9
  obtain ⟨d9, f9, s9⟩ := hb13.facts
  obtain ⟨N13, hN13⟩ : ∃ N : Nat → Prop, (fun j => ((N1 j ∨ (Value.slice A7 (nd.keys.length + 1) c7).ownBlock = some j) ∨ (Value.slice A10 (nd.vals.length + 1) c10).ownBlock = some j) ∨ (Value.slice A13 (nd.kids.length + 1) c13).ownBlock = some j) = N := ⟨_, rfl⟩
  have hN1 : ∀ j, N1 j → N13 j := fun j hj => by subst hN13; exact .inl (.inl (.inl hj))
  have hNv : ∀ j, (N1 j ∨ (Value.slice A7 (nd.keys.length + 1) c7).ownBlock = some j) → N13 j := fun j hj => by subst hN13; exact .inl (.inl hj)
  have hNc : ∀ j, ((N1 j ∨ (Value.slice A7 (nd.keys.length + 1) c7).ownBlock = some j) ∨ (Value.slice A10 (nd.vals.length + 1) c10).ownBlock = some j) → N13 j := fun j hj => by subst hN13; exact .inl hj
  have z5 := H5.out.2.2.2.1.size
  have z6 := H6.out.2.2.1.size
  have z8 := H8b.out.1.size
  have z9 := H9.out.2.2.1.size
  have z10 := H10.out.2.2.1.chg.size
  have z11 := H11.out.2.2.size
  have z12 := H12.out.2.2.1.size
  have z1 := H1.out.2.1.chg.size
  have hNi : ∀ j, N13 j → N1 j ∨ W5.heap.size ≤ j := fun j hj => by
    subst hN13
    rcases hj with ((hj | hj) | hj) | hj
    · exact .inl hj
    · exact (H7.out.2.2.1.at_ j hj).elim (fun e => .inl (HV.out.nk j e)) fun e => .inr (by omega)
    · exact (H10.out.2.2.1.at_ j hj).elim (fun e => .inl (HV.out.nv j e)) fun e => .inr (by omega)
    · exact (ha13.at_ j hj).elim (fun e => .inl (HV.out.nc j e)) fun e => .inr (by omega)
  have hg8 : Chg N13 W8 W14 := Chg.trans (Grew.then H9.out.2.2.1 (H10.out.2.2.1.chg.mono fun j _ e => hNv j (H8.out.1.nv j e))) (Chg.trans (H11.out.2.2.mono fun j _ e => by subst e; exact hN1 _ HV.out.nb) (Chg.trans (Grew.then H12.out.2.2.1 (ha13.chg.mono fun j _ e => hNc j (hownN j e))) (hc14.mono fun j _ e => by subst e; exact hN1 _ HV.out.nb) fun _ _ e => e) fun _ _ e => e) fun _ _ e => e
  have hg5 : Chg N13 W5 W14 := Chg.trans (H8b.out.1.mono fun j _ e => hNv j e) hg8 fun _ _ e => e
  rw [hN13] at hV14 hsp14
  have hd12 := hsp14.d12
  have hN1lt : ∀ j, N1 j → j < w.heap.size := fun j hj => (H.out.2.2.1.d1F j hj).2.2.2
  have hbk14 := H8b.out.2.1.chg hg8 fun e => hd12 _ e H1.out.2.2.2.2.2.2.1
  have hR14 := H5.out.1.chg hg5 fun j hj e => (hNi j e).elim (fun e => by have := hN1lt j e; omega) fun e => by omega
  have hRd : ∀ j, (w1.heap.size ≤ j ∧ j < W5.heap.size) → ¬ N13 j := fun j hj e => (hNi j e).elim (fun e => by have := hN1lt j e; omega) fun e => by omega
  have hkN : ∀ j, N2 j → j < w.heap.size := fun j hj => H.out.2.2.1.kd.at.lt j hj
  have hc114 : Chg (fun j => F j ∨ N1 j ∨ N2 j) w W14 := Chg.trans ((H1.out.2.1.chg.mono fun j _ e => .inl e).grew H5.out.2.2.2.1) hg5 fun j hj e => (hNi j e).elim (fun e => .inr (.inl e)) fun e => by omega
  have hs14 : Sl W14 1 (some ⟨gk, 0, none⟩) kd.keys.length (iv kd.keys) ∧ Sl W14 1 (some ⟨gv, 0, none⟩) kd.vals.length (iv kd.vals) ∧ Sl W14 1 Ac kd.kids.length (nv kd.kids) := ⟨(H1.out.2.2.2.1.grew H5.out.2.2.2.1).chg hg5 (fun a ha e => by cases ha; exact hd12 _ e H1.out.2.2.2.2.2.2.2.1), (H1.out.2.2.2.2.1.grew H5.out.2.2.2.1).chg hg5 (fun a ha e => by cases ha; exact hd12 _ e H1.out.2.2.2.2.2.2.2.2.1), (H1.out.2.2.2.2.2.1.grew H5.out.2.2.2.1).chg hg5 (fun a ha e => hd12 _ e (H1.out.2.2.2.2.2.2.2.2.2.1 a ha).1)⟩
  have hno : NdOwn W14 N13 bn qn (nd.ins i k0 v0 r) := by
    refine NdV.own (vk := .slice A7 (nd.keys.length + 1) c7) (vv := .slice A10 (nd.vals.length + 1) c10) (vc := .slice A13 (nd.kids.length + 1) c13) (nd := nd.ins i k0 v0 r) ?_
    have e1 : nv (nd.ins i k0 v0 r).kids = iv (insI (nd.kids.map Int.ofNat) (i + 1) (r : Int)) := nv_insN _ _ _
    rw [e1]
    exact hV14
  have hk0i : i64 k0 := HX.out.2.1.ki _ (List.mem_of_getElem? HC.out.1)
  have hv0i : i64 v0 := HX.out.2.1.vi _ (List.mem_of_getElem? HC.out.2.1)
  have hmost : 2 * h - 1 ≤ mostN x.sz := by have := HX.out.2.1.most; omega
  have hfits := And.intro (Nd.ins_fit (sz := x.sz) (nd := nd) (i := i) (k0 := k0) (v0 := v0) (r := r) hnv hnc HX.out.1.ki HX.out.1.vi HX.out.1.ci (by omega) hi hk0i hv0i (by omega)) (And.intro (Nd.lo_fit (h := h) HX.out.2.1 (by omega) hf) (Nd.hi_fit (h := h) HX.out.2.1 (by omega) hf))
  have hlf := leaf_any bk qk kd N2 W14 hsp14.kd.at
  rw [hnc] at hW14
  have HL := Lib.hid (And.intro hlf hW14)
  have HF := Lib.hid (And.intro hsp14 (And.intro hno (And.intro hR14 (And.intro hRd (And.intro hc114 (And.intro hs14 (And.intro hfits (And.intro hkN (And.intro hbk14 hNi)))))))))
  have z14 : W5.heap.size ≤ W14.heap.size := hg5.size
  clear hsp14 hno hR14 hRd hc114 hs14 hfits hlf hW14 hk0i hv0i hmost hbk14 hNi hN1 hNv hNc hg8 hg5 hV14 hc14 hsp13 hb13 hl13 hownN ho13 ha13 hd12 hN1lt hkN hN13
  have HZ := Lib.hid (And.intro z1 (And.intro z5 (And.intro z6 (And.intro z8 (And.intro z9 (And.intro z10 (And.intro z11 (And.intro z12 z14))))))))
  clear z1 z5 z6 z8 z9 z10 z11 z12 z14
  rcases hkc with h0 | h0
  · have t1 : decide (kd.kids.length = 0) = true := decide_eq_true h0
    go_wp2_with fail
    rw [HL.out.2]
    refine HL.out.1.mono ?_
    rintro e w15 ⟨rfl, rfl⟩
    clear d9 f9 s9
    obtain ⟨d9, f9, s9⟩ := HF.out.2.2.2.2.2.2.2.2.1.facts
    go_wp2_with fail
    go_region
    go_wp2_with fail
    obtain ⟨cn, hcn, hcn2⟩ := HX.out.2.2.1
    obtain ⟨cq, hcq, hcq2⟩ := HX.out.2.2.2.1
    have hkid : kd.kids = [] := List.eq_nil_of_length_eq_zero h0
    have hhi : (⟨kd.keys.drop h, kd.vals.drop h, []⟩ : Nd) = kd.hi h := by unfold Nd.hi; rw [hkid, List.drop_nil]
    refine (split_fin (w := w) (W := W14) (kd := kd) (nd := nd) (F := F) (F1 := F1) (N1 := N1) (N13 := N13) (N2 := N2) (NR := fun j => w1.heap.size ≤ j ∧ j < W5.heap.size) (G := fun j => F j ∨ N1 j ∨ N2 j) (k0 := k0) (v0 := v0) (i := i) (x := x) (root := root) (p := p) (qn := qn) (r := r)
      HF.out.1.bt H.out.2.2.2.2 H1.out.2.2.2.2.2.2.2.2.2.2.1 hcq hcq2 hcn hcn2 HF.out.2.1 (fun j hj => (HF.out.1.d1F j hj).1) HF.out.2.2.2.2.2.2.1.1 HF.out.2.2.2.2.2.2.2.2.1 HF.out.2.2.2.2.2.1.1 HF.out.2.2.2.2.2.1.2.1 HF.out.2.2.2.2.2.1.2.2 (by omega) (by omega) (by rw [hkid, List.take_nil])
      H1.out.2.2.2.2.2.2.1 H1.out.2.2.2.2.2.2.2.1 H1.out.2.2.2.2.2.2.2.2.1 (fun a ha => (H1.out.2.2.2.2.2.2.2.2.2.1 a ha).1) HF.out.1.kd.at.lt H1.out.2.2.2.2.2.2.2.2.2.2.2.2.2.1 H1.out.2.2.2.2.2.2.2.2.2.2.2.2.2.2.1 H1.out.2.2.2.2.2.2.2.2.2.2.2.2.2.2.2 HF.out.1.d2F HF.out.1.d12 HF.out.2.2.2.2.2.2.1.2.1
      (hhi ▸ HF.out.2.2.1.at) (fun j hj e => by have := H1.out.1.bt.gp.lt j e; omega) (fun j hj e => by have := HF.out.2.2.2.2.2.2.2.1 j e; have := HZ.out.1; omega) HF.out.2.2.2.2.2.2.1.2.2 HX.out.2.2.2.2 HF.out.2.2.2.2.1 H1.out.2.1.new (fun j e => .inl e) (fun j e => .inr (.inr e)) (fun j hj => (HF.out.2.2.2.2.2.2.2.2.2 j hj).imp id fun e => by have := HZ.out.1; have := HZ.out.2.1; omega) HC.out.1 HC.out.2.1).mono ?_
    rintro e w' (⟨rfl, hr1⟩ | ⟨rfl, hr1⟩)
    · have HR1 := Lib.hid hr1
      clear hr1
      go_wp2_with fail
      go_ret
      exact .inl ⟨rfl, HR1.out⟩
    · have HR1 := Lib.hid hr1
      clear hr1
      go_wp2_with fail
      go_ret
      exact .inr ⟨rfl, HR1.out⟩
  · have t1 : decide (kd.kids.length = 0) = false := decide_eq_false (by omega)
    have t2 : decide (kd.kids = []) = false := decide_eq_false (fun e => by rw [e] at h0; simp only [List.length_nil] at h0; omega)
    obtain ⟨gc, oc, hA, hgcl, -⟩ := HF.out.2.2.2.2.2.1.2.2.2 (by omega)
    obtain rfl : oc = 0 := by have := (H1.out.2.2.2.2.2.2.2.2.2.1 _ hA).2.1; exact this
    subst hA
    obtain ⟨vk', vv', vc', hVR⟩ := HF.out.2.2.1.v
    have hbk := HF.out.2.2.2.2.2.2.2.2.1
    rw [h0] at hbk
    have hsl : Sl W14 1 (some ⟨gc, h, none⟩) h ((nv kd.kids).drop h) := by
      have h9 := Sl.cut (HF.out.2.2.2.2.2.1.2.2) h h (by omega)
      rw [List.take_of_length_le (by rw [List.length_drop, nv_len]; omega), Nat.zero_add] at h9
      exact h9
    have hcl := bclone_int gc h h (cc - h) _ W14 hsl (fun u hu => nv_one _ u (List.mem_of_mem_drop hu)) (by omega) (by omega)
    have hcc := H1.out.2.2.2.2.2.2.2.2.2.2.2.2.1
    have s5 : ¬ cc = h := by omega
    have s6 : (h : Int) ≤ ((2 * h : Nat) : Int) := by omega
    have s7 : h ≤ cc := by omega
    have s8 : 2 * h - h = h := by omega
    have hRb : w1.heap.size ≤ R ∧ R < W5.heap.size := hVR.nb
    have hne : bk ≠ R := fun e => by have := HF.out.2.2.2.2.2.2.2.1 bk H1.out.2.2.2.2.2.2.1; have := HZ.out.1; omega
    have HB := Lib.hid (And.intro hcl (And.intro hVR (And.intro hbk hRb)))
    have HHc := Lib.hid (And.intro hcc hgcl)
    have H0 := Lib.hid h0
    clear hcl hsl hVR hRb hcc hgcl h0
    go_wp2_with fail
    rw [HL.out.2]
    refine HL.out.1.mono ?_
    rintro e w15 ⟨rfl, rfl⟩
    clear d9 f9 s9
    obtain ⟨d9, f9, s9⟩ := hbk.facts
    go_wp2_with fail
    refine HB.out.1.mono ?_
    rintro e w15 ⟨A15, c15, rfl, ho15, hg15⟩
    clear d9 f9 s9
    obtain ⟨d9, f9, s9⟩ := (hbk.grew hg15).facts
    obtain ⟨d8, f8, s8'⟩ := (HB.out.2.1.blk.grew hg15).facts
    have HO := Lib.hid (And.intro ho15 hg15)
    clear ho15 hg15 hbk
    go_wp2_with fail
    obtain ⟨W16, hW16⟩ : ∃ W, w15.setCell ⟨R, 3, none⟩ (.slice A15 h c15) = W := ⟨_, rfl⟩
    rw [hW16]
    obtain ⟨W17, hW17⟩ : ∃ W, W16.setCell ⟨bk, 3, none⟩ (.slice (some ⟨gc, 0, none⟩) h cc) = W := ⟨_, rfl⟩
    rw [hW17]
    have hkl : ((nv kd.kids).drop h).length = h := by have := H0.out; rw [List.length_drop, nv_len]; omega
    have hVR16 := NdV.setC (W2 := W16) (l' := (nv kd.kids).drop h) (v' := .slice A15 h c15) HB.out.2.1 ⟨HO.out.2.chg, fun j hj => .inr (HO.out.1.lt j hj).1⟩ (by rw [hkl]; exact own_base HO.out.1 (by have := tab_pos HF.out.1.bt.gp.tab; omega)) hW16
    have hc16 : Chg (fun j => j = R) w15 W16 := hW16 ▸ (Chg.refl (fun j => j = R) w15).setCell (p := ⟨R, 3, none⟩) (fun _ => rfl) _
    have hc17 : Chg (fun j => j = bk) W16 W17 := hW17 ▸ (Chg.refl (fun j => j = bk) W16).setCell (p := ⟨bk, 3, none⟩) (fun _ => rfl) _
    have hb17 : Blk W17 bk 73 #[.int .i64 qk, .slice (some ⟨gk, 0, none⟩) (2 * h - 1) ck, .slice (some ⟨gv, 0, none⟩) (2 * h - 1) cv, .slice (some ⟨gc, 0, none⟩) h cc] := by
      have h9 := ((HB.out.2.2.1.grew HO.out.2).chg hc16 hne).put 3 (.slice (some ⟨gc, 0, none⟩) h cc)
      rw [hW17] at h9
      simpa using h9
    have hcA : Chg (fun j => j = R ∨ j = bk) W14 W17 := Chg.trans (Grew.then HO.out.2 (hc16.mono fun j _ e => .inl e)) (hc17.mono fun j _ e => .inr e) fun _ _ e => e
    have n1 := H1.out.2.2.2.2.2.2.1
    have hzw := HZ.out.1
    have hN2R : ∀ j, N2 j → j ≠ R := fun j hj e => by have := HF.out.2.2.2.2.2.2.2.1 j hj; have := HB.out.2.2.2; omega
    have hR17 : NdAt W17 (fun j => (w1.heap.size ≤ j ∧ j < W5.heap.size) ∨ (Value.slice A15 h c15).ownBlock = some j) R r (kd.hi h) := by
      have h9 : NdOwn W16 (fun j => (w1.heap.size ≤ j ∧ j < W5.heap.size) ∨ (Value.slice A15 h c15).ownBlock = some j) R r (kd.hi h) := by
        refine NdV.own (vk := vk') (vv := vv') (vc := .slice A15 h c15) (nd := kd.hi h) ?_
        have e1 : nv (kd.hi h).kids = (nv kd.kids).drop h := nv_drop _ _
        rw [e1]
        exact hVR16
      refine h9.at.chg hc17 fun j hj e => ?_
      subst e
      rcases hj with hj | hj
      · have := HF.out.2.2.2.2.2.2.2.1 _ n1; omega
      · have := (HO.out.1.lt _ hj).1; have := HF.out.1.kd.at.lt _ n1; omega
    obtain ⟨cn, hcn, hcn2⟩ := HX.out.2.2.1
    obtain ⟨cq, hcq, hcq2⟩ := HX.out.2.2.2.1
    have z17 : W14.heap.size ≤ W17.heap.size := hcA.size
    have HG := Lib.hid (And.intro hcA (And.intro hR17 (And.intro hN2R (And.intro hb17 (And.intro hcq (And.intro hcq2 (And.intro hcn hcn2)))))))
    clear d9 f9 s9 d8 f8 s8'
    obtain ⟨d9, f9, s9⟩ := hb17.facts
    clear hVR16 hc16 hc17 hW16 hW17 hcA hR17 hN2R hb17 hkl
    go_region
    go_wp2_with fail
    have h0 := H0.out
    have hF14 : ∀ j, F1 j → j < w1.heap.size := fun j hj => H1.out.1.bt.gp.lt j hj
    have hRb := HB.out.2.2.2
    have hz5 := HZ.out.2.1
    have hz14 := HZ.out.2.2.2.2.2.2.2.2
    refine (split_fin (w := w) (W := W17) (kd := kd) (nd := nd) (F := F) (F1 := F1) (N1 := N1) (N13 := N13) (N2 := N2) (NR := fun j => (w1.heap.size ≤ j ∧ j < W5.heap.size) ∨ (Value.slice A15 h c15).ownBlock = some j) (G := fun j => F j ∨ N1 j ∨ N2 j) (k0 := k0) (v0 := v0) (i := i) (x := x) (root := root) (p := p) (qn := qn) (r := r)
      (HF.out.1.bt.chg HG.out.1 (fun j hj e => e.elim (fun e => by have := hF14 j hj; omega) fun e => HF.out.1.d2F j (e ▸ n1) hj) (fun e => e.elim (fun e => by have := tab_pos H1.out.1.bt.gp.tab; omega) fun e => HX.out.2.2.2.2.2 (e ▸ n1)) (fun e => e.elim (fun e => by have := H1.out.1.bt.blk.lt; omega) fun e => HX.out.2.2.2.2.1 (e ▸ n1)))
      H.out.2.2.2.2 H1.out.2.2.2.2.2.2.2.2.2.2.1 HG.out.2.2.2.2.1 HG.out.2.2.2.2.2.1 HG.out.2.2.2.2.2.2.1 HG.out.2.2.2.2.2.2.2
      (HF.out.2.1.chg HG.out.1 fun j hj e => e.elim (fun e => HF.out.2.2.2.1 R HB.out.2.2.2 (e ▸ hj)) fun e => HF.out.1.d12 j hj (e ▸ n1))
      (fun j hj => (HF.out.1.d1F j hj).1) HF.out.2.2.2.2.2.2.1.1 HG.out.2.2.2.1
      (HF.out.2.2.2.2.2.1.1.chg HG.out.1 fun a ha e => by cases ha; exact e.elim (HG.out.2.2.1 _ H1.out.2.2.2.2.2.2.2.1) H1.out.2.2.2.2.2.2.2.2.2.2.2.2.2.1)
      (HF.out.2.2.2.2.2.1.2.1.chg HG.out.1 fun a ha e => by cases ha; exact e.elim (HG.out.2.2.1 _ H1.out.2.2.2.2.2.2.2.2.1) H1.out.2.2.2.2.2.2.2.2.2.2.2.2.2.2.1)
      (HF.out.2.2.2.2.2.1.2.2.chg HG.out.1 fun a ha e => e.elim (HG.out.2.2.1 _ (H1.out.2.2.2.2.2.2.2.2.2.1 a ha).1) (H1.out.2.2.2.2.2.2.2.2.2.2.2.2.2.2.2 a ha))
      (by omega) (by omega) (by rw [List.length_take]; omega)
      n1 H1.out.2.2.2.2.2.2.2.1 H1.out.2.2.2.2.2.2.2.2.1 (fun a ha => (H1.out.2.2.2.2.2.2.2.2.2.1 a ha).1) (fun j hj => Nat.lt_of_lt_of_le (HF.out.1.kd.at.lt j hj) HG.out.1.size) H1.out.2.2.2.2.2.2.2.2.2.2.2.2.2.1 H1.out.2.2.2.2.2.2.2.2.2.2.2.2.2.2.1 H1.out.2.2.2.2.2.2.2.2.2.2.2.2.2.2.2 HF.out.1.d2F HF.out.1.d12 HF.out.2.2.2.2.2.2.1.2.1
      HG.out.2.1 (fun j hj e => hj.elim (fun hj => by have := hF14 j e; omega) fun hj => by have := hF14 j e; have := (HO.out.1.lt _ hj).1; omega) (fun j hj e => hj.elim (fun hj => by have := HF.out.2.2.2.2.2.2.2.1 j e; omega) fun hj => by have := HF.out.1.kd.at.lt j e; have := (HO.out.1.lt _ hj).1; omega) HF.out.2.2.2.2.2.2.1.2.2 HX.out.2.2.2.2
      (Chg.trans HF.out.2.2.2.2.1 HG.out.1 fun j hj e => e.elim (fun e => by omega) fun e => .inr (.inr (e ▸ n1))) H1.out.2.1.new (fun j e => .inl e) (fun j e => .inr (.inr e)) (fun j hj => (HF.out.2.2.2.2.2.2.2.2.2 j hj).imp id fun e => by have := HZ.out.2.1; omega) HC.out.1 HC.out.2.1).mono ?_
    rintro e w' (⟨rfl, hr1⟩ | ⟨rfl, hr1⟩)
    · have HR1 := Lib.hid hr1
      clear hr1
      go_wp2_with fail
      go_ret
      exact .inl ⟨rfl, HR1.out⟩
    · have HR1 := Lib.hid hr1
      clear hr1
      go_wp2_with fail
      go_ret
      exact .inr ⟨rfl, HR1.out⟩
end Go.Proofs.YtpkkcicaeldodaaGreatDoor

/- The tree: grow. -/
namespace Go.Proofs.YtpkkcicaeldodaaGreatDoor
open Go.RowKit Go.Maps

/-- A node's rows under another head. -/
theorem NdOwn.move {W : World} {N : Nat → Prop} {b q : Nat} {nd : Nd} (h : NdOwn W N b q nd) : ∃ Ak ck Av cv Ac cc, Blk W b 73 #[.int .i64 q, .slice Ak nd.keys.length ck, .slice Av nd.vals.length cv, .slice Ac nd.kids.length cc] ∧
    ∀ (W' : World) (b' q' : Nat), Grew W W' → W.heap.size ≤ b' → Blk W' b' 73 #[.int .i64 q', .slice Ak nd.keys.length ck, .slice Av nd.vals.length cv, .slice Ac nd.kids.length cc] → NdOwn W' (fun j => (N j ∧ j ≠ b) ∨ j = b') b' q' nd := by
  obtain ⟨vk, vv, vc, hV⟩ := h.v
  have hne := hV.ne
  have rk := hV.rk
  have rv := hV.rv
  have rc := hV.rc
  rw [iv_len] at rk rv
  rw [nv_len] at rc
  obtain ⟨Ak, ck, rfl, -⟩ := own_shape rk
  obtain ⟨Av, cv, rfl, -⟩ := own_shape rv
  obtain ⟨Ac, cc, rfl, -⟩ := own_shape rc
  refine ⟨Ak, ck, Av, cv, Ac, cc, hV.blk, fun W' b' q' hg hb hB => ?_⟩
  have hsz := hg.size
  refine NdV.own (vk := .slice Ak nd.keys.length ck) (vv := .slice Av nd.vals.length cv) (vc := .slice Ac nd.kids.length cc) ⟨hB, own_grew hV.rk hg, own_grew hV.rv hg, own_grew hV.rc hg, .inr rfl, fun g e => .inl ⟨hV.nk g e, fun e2 => hne.1 (e2 ▸ e)⟩, fun g e => .inl ⟨hV.nv g e, fun e2 => hne.2.1 (e2 ▸ e)⟩, fun g e => .inl ⟨hV.nc g e, fun e2 => hne.2.2 (e2 ▸ e)⟩, fun j hj => ?_, hV.kv, hV.kc, hV.vc_⟩
  rcases hj with ⟨hj, -⟩ | rfl
  · exact Nat.lt_of_lt_of_le (hV.lt j hj) hsz
  · exact hB.lt
/-- What grow leaves. -/
def GwOut (G : Nat → Prop) (w w' : World) (t p root : Nat) (F : Nat → Prop) (x : Rp) (D : Nat) (L : List KV) (e : Ending) : Prop :=
  (∃ bt N' nd' F' y P', e = .returned (.tuple #[.pointer (some ⟨bt, 0, none⟩), .int .i64 0]) ∧ BT w' t p root F' y ∧ Chg G w w' ∧ (∀ j, F' j → F j ∨ w.heap.size ≤ j) ∧ NdOwn w' N' bt root nd' ∧ (∀ j, N' j → ¬ F' j) ∧ (∀ j, N' j → w.heap.size ≤ j) ∧
    TS y (D + 1) root L P' ∧ x.like y ∧ y.nd root = some nd' ∧ nd'.keys.length = 1 ∧ y.now.countP Pk.used = x.now.countP Pk.used + 2) ∨
  (∃ v, e = .returned (.tuple #[v, .int .i64 21]) ∧ FullG G w w' t p root F x 2)
theorem FullG.more {G : Nat → Prop} {w w1 w' : World} {t p root m m' : Nat} {F F1 : Nat → Prop} {x y : Rp} {G' : Nat → Prop} (h : FullG G w1 w' t p root F1 y m) (hl : x.like y) (hu : y.now.countP Pk.used + m ≤ x.now.countP Pk.used + m') (hc : Chg G' w w1) (hF : ∀ j, F1 j → F j ∨ w.heap.size ≤ j) (hG : ∀ j, j < w.heap.size → G j → G' j) : FullG G' w w' t p root F x m' := by
  obtain ⟨z, F', h1, h2, h3, h4, h5, h6⟩ := h
  have hsz := hc.size
  exact ⟨z, F', h1, Chg.trans hc h2 hG, fun j hj => (h3 j hj).elim (hF j) fun e => .inr (by omega), hl.trans h4, by omega, h6⟩

/-- The tree behind a root that has grown (plain). -/
theorem TS.grow {x : Rp} {D root c r : Nat} {L : List KV} {P : List Nat} {kd : Nd} (s : TS x D root L P) (hn : x.nd root = some kd) (hc : x.now[c]? = some .no) (hr : (x.put c .zero).now[r]? = some .no) (hh : 2 ≤ halfN x.sz) (hf : kd.keys.length = 2 * halfN x.sz - 1) (hz : x.sz ≤ 4096)
    {k0 v0 : Int} (hk : kd.keys[halfN x.sz - 1]? = some k0) (hv : kd.vals[halfN x.sz - 1]? = some v0) (f1 : (kd.hi (halfN x.sz)).Fit x.sz) (f2 : (kd.lo (halfN x.sz)).Fit x.sz) (f3 : (Nd.ins ⟨[], [], [c]⟩ 0 k0 v0 r).Fit x.sz) :
    ∃ P', TS ((x.put c .zero).splitP r c root (kd.hi (halfN x.sz)) (kd.lo (halfN x.sz)) (Nd.ins ⟨[], [], [c]⟩ 0 k0 v0 r)) (D + 1) root L P' ∧ ((x.put c .zero).splitP r c root (kd.hi (halfN x.sz)) (kd.lo (halfN x.sz)) (Nd.ins ⟨[], [], [c]⟩ 0 k0 v0 r)).nd root = some (Nd.ins ⟨[], [], [c]⟩ 0 k0 v0 r) ∧
      ((x.put c .zero).splitP r c root (kd.hi (halfN x.sz)) (kd.lo (halfN x.sz)) (Nd.ins ⟨[], [], [c]⟩ 0 k0 v0 r)).now.countP Pk.used = x.now.countP Pk.used + 2 := by
  have hcl := (List.getElem?_eq_some_iff.1 hc).1
  have hcP := s.new hc
  have c1 : (x.put c .zero).now[c]? = some .zero := by rw [Rp.put_at hcl, if_pos rfl]
  have hcr : c ≠ r := fun e => by rw [← e, c1] at hr; cases hr
  have hr0 : x.now[r]? = some .no := by
    rw [Rp.put_at hcl, if_neg (Ne.symm hcr)] at hr
    exact hr
  have hrP := s.new hr0
  have hrt : root ∈ P := s.tr.root_mem
  obtain ⟨ct, ht1, ht2⟩ := s.pgs root hrt
  have hctr : c ≠ root := fun e => hcP (e ▸ hrt)
  have hrtr : r ≠ root := fun e => hrP (e ▸ hrt)
  obtain ⟨k1, v1, g1, g2, g3⟩ := s.tr.grow (r := r) (c := c) s.nd hh hn hf hcP hrP hcr
  rw [hk] at g1; cases g1
  rw [hv] at g2; cases g2
  have hrl := (List.getElem?_eq_some_iff.1 hr).1
  have hl : (x.put c .zero).now.length = x.now.length := Rp.put_len _ _ _
  obtain ⟨n1, n2, n3, n4⟩ := Rp.splitP_nd (x := x.put c .zero) (r := r) (qk := c) (qn := root) hrl (by rw [hl]; exact hcl) (by rw [hl]; exact (List.getElem?_eq_some_iff.1 ht1).1) f1 f2 f3 hz (Ne.symm hcr) hrtr hctr
  obtain ⟨P', h1, h2⟩ := g3 _ n2 n1 n3 fun j hj hjr => by
    have e1 : j ≠ r := fun e => hrP (e ▸ hj)
    have e2 : j ≠ c := fun e => hcP (e ▸ hj)
    rw [n4 j e1 e2 hjr, Rp.nd_other e2]
  have u1 := Rp.put_usedN (c := .zero) hc rfl
  obtain ⟨ct2, ht3, ht4⟩ := Rp.put_same (q := c) (c := .zero) ht1 ht2 rfl
  have u2 := Rp.splitP_used (x := x.put c .zero) (hi := kd.hi (halfN x.sz)) (lo := kd.lo (halfN x.sz)) (pn := Nd.ins ⟨[], [], [c]⟩ 0 k0 v0 r) hr c1 rfl ht3 ht4
  have hu : ((x.put c .zero).splitP r c root (kd.hi (halfN x.sz)) (kd.lo (halfN x.sz)) (Nd.ins ⟨[], [], [c]⟩ 0 k0 v0 r)).now.countP Pk.used = x.now.countP Pk.used + 2 := by omega
  refine ⟨P', ⟨h1, h2.nodup_iff.2 (List.nodup_cons.2 ⟨by simp; exact ⟨fun e => hcr e.symm, hrP⟩, List.nodup_cons.2 ⟨hcP, s.nd⟩⟩), s.srt, ?_⟩, n3, hu⟩
  rw [hu, h2.length_eq, s.used]
  rfl
theorem half_two {sz : Nat} (h : 64 ≤ sz) : 2 ≤ halfN sz := by unfold halfN mostN; omega
set_option maxRecDepth 100000 in
set_option maxHeartbeats 3200000 in
theorem bgrow_any (t p root bn D : Nat) (L : List KV) (P : List Nat) (F N : Nat → Prop) (x : Rp) (nd : Nd) (w : World) (hb : BT w t p root F x) (ho : x.was ≠ none) (hs : TS x D root L P) (hn : NdOwn w N bn root nd) (hnd : x.nd root = some nd) (hf : nd.keys.length = 2 * halfN x.sz - 1) (hNF : ∀ j, N j → ¬ F j) (hN0 : ¬ N t ∧ ¬ N 0) :
    Calls Tryz.prog 40 #[.pointer (some ⟨t, 0, none⟩), .pointer (some ⟨bn, 0, none⟩)] w fun e w' => GwOut (fun j => F j ∨ N j) w w' t p root F x D L e := by
  have hz := hb.gp.szs
  have hal := gp_alloc_any p F x w hb.gp ho
  obtain ⟨c0, f0, s0⟩ := hb.blk.facts
  have H := Lib.hid (And.intro hal (And.intro hb (And.intro ho (And.intro hs (And.intro hn (And.intro hnd (And.intro hf (And.intro hNF (And.intro hN0 hz)))))))))
  clear hal hb ho hs hn hnd hf hNF hN0 hz
  go_enter Tryz.func40, Tryz.ntmps40
  go_wp2_with fail
  refine H.out.1.mono ?_
  rintro e w1 (⟨c, hc, hcf, rfl, hto⟩ | ⟨hno, rfl, hg1⟩)
  rotate_left
  · have HN := Lib.hid (And.intro hno hg1)
    clear hno hg1
    go_wp2_with fail
    go_ret2
    exact .inr ⟨_, rfl, x, F, H.out.2.1.grew HN.out.2, HN.out.2.chg, fun _ e => .inl e, Rp.like.refl x, by omega, fun e => HN.out.1 ⟨by omega, e.2⟩⟩
  obtain ⟨F1, hb1, hc1, hn1⟩ := H.out.2.1.to hto
  have hc4 : c < 4096 := by have h1 := (List.getElem?_eq_some_iff.1 hc).1; have := H.out.2.2.2.2.2.2.2.2.2; omega
  have hnode1 := H.out.2.2.2.2.1.chg hc1 H.out.2.2.2.2.2.2.2.1
  obtain ⟨Ak, ck, Av, cv, Ac, cc, bB, bmv⟩ := hnode1.move
  have hd1 : w1.drew.cell? ⟨bn, 1, none⟩ = some (.slice Ak nd.keys.length ck) ∧ w1.drew.cell? ⟨bn, 2, none⟩ = some (.slice Av nd.vals.length cv) ∧ w1.drew.cell? ⟨bn, 3, none⟩ = some (.slice Ac nd.kids.length cc) := ⟨bB.drew.cell 1, bB.drew.cell 2, bB.drew.cell 3⟩
  have H1 := Lib.hid (And.intro hb1 (And.intro hc1 (And.intro hn1 (And.intro hc (And.intro bB bmv)))))
  clear hb1 hc1 hn1 hc hcf hto hnode1 bB bmv c0 f0 s0
  go_wp2_with fail
  refine wp_region_held_drew (S := fun w' => w'.cell? ⟨bn, 1, none⟩ = some (.slice Ak nd.keys.length ck) ∧ w'.cell? ⟨bn, 2, none⟩ = some (.slice Av nd.vals.length cv) ∧ w'.cell? ⟨bn, 3, none⟩ = some (.slice Ac nd.kids.length cc)) (by kernel_rfl) hd1 (fun hHeld => ?_)
  refine wpAnyH_take (i := 0) (v := ?_) rfl (by kernel_rfl) (by kernel_rfl) (by kernel_rfl) (fun _ _ _ h => h) (Or.inl ⟨by rfl, ?_⟩) hHeld ?_
  rotate_left
  · (intro w hSw; (try dsimp only at hSw); go_simp) <;> with_reducible rfl
  (try simp only [Act.put, List.setIfInBounds_toArray, List.set_cons_zero, List.set_cons_succ, List.getElem_toArray, List.getElem_cons_zero, List.getElem_cons_succ])
  refine wpAnyH_take (i := 1) (v := ?_) rfl (by kernel_rfl) (by kernel_rfl) (by kernel_rfl) (fun _ _ _ h => h) (Or.inl ⟨by rfl, ?_⟩) hHeld ?_
  rotate_left
  · (intro w hSw; (try dsimp only at hSw); go_simp) <;> with_reducible rfl
  (try simp only [Act.put, List.setIfInBounds_toArray, List.set_cons_zero, List.set_cons_succ, List.getElem_toArray, List.getElem_cons_zero, List.getElem_cons_succ])
  refine wpAnyH_take (i := 2) (v := ?_) rfl (by kernel_rfl) (by kernel_rfl) (by kernel_rfl) (fun _ _ _ h => h) (Or.inl ⟨by rfl, ?_⟩) hHeld ?_
  rotate_left
  · (intro w hSw; (try dsimp only at hSw); go_simp) <;> with_reducible rfl
  (try simp only [Act.put, List.setIfInBounds_toArray, List.set_cons_zero, List.set_cons_succ, List.getElem_toArray, List.getElem_cons_zero, List.getElem_cons_succ])
  refine wpAnyH_take (i := 3) (v := ?_) rfl (by kernel_rfl) (by kernel_rfl) (by kernel_rfl) (fun _ _ _ h => h) (Or.inl ⟨by rfl, ?_⟩) hHeld ?_
  rotate_left
  · (intro w hSw; (try dsimp only at hSw); go_simp) <;> with_reducible rfl
  (try simp only [Act.put, List.setIfInBounds_toArray, List.set_cons_zero, List.set_cons_succ, List.getElem_toArray, List.getElem_cons_zero, List.getElem_cons_succ])
  refine wpAnyH_take (i := 4) (v := ?_) rfl (by kernel_rfl) (by kernel_rfl) (by kernel_rfl) (fun _ _ _ h => h) (Or.inl ⟨by rfl, ?_⟩) hHeld ?_
  rotate_left
  · (intro w hSw; (try dsimp only at hSw); go_simp) <;> with_reducible rfl
  (try simp only [Act.put, List.setIfInBounds_toArray, List.set_cons_zero, List.set_cons_succ, List.getElem_toArray, List.getElem_cons_zero, List.getElem_cons_succ])
  refine wpAnyH_take (i := 5) (v := ?_) rfl (by kernel_rfl) (by kernel_rfl) (by kernel_rfl) (fun _ _ _ h => h) (Or.inl ⟨by rfl, ?_⟩) hHeld ?_
  rotate_left
  · (intro w hSw; (try dsimp only at hSw); go_simp) <;> with_reducible rfl
  (try simp only [Act.put, List.setIfInBounds_toArray, List.set_cons_zero, List.set_cons_succ, List.getElem_toArray, List.getElem_cons_zero, List.getElem_cons_succ])
  refine wpAnyH_take (i := 6) (v := ?_) rfl (by kernel_rfl) (by kernel_rfl) (by kernel_rfl) (fun _ _ _ h => h) (Or.inl ⟨by rfl, ?_⟩) hHeld ?_
  rotate_left
  · (intro w hSw; (try dsimp only at hSw); go_simp) <;> with_reducible rfl
  (try simp only [Act.put, List.setIfInBounds_toArray, List.set_cons_zero, List.set_cons_succ, List.getElem_toArray, List.getElem_cons_zero, List.getElem_cons_succ])
  refine wpAnyH_take (i := 7) (v := ?_) rfl (by kernel_rfl) (by kernel_rfl) (by kernel_rfl) (fun _ _ _ h => h) (Or.inl ⟨by rfl, ?_⟩) hHeld ?_
  rotate_left
  · (intro w hSw; (try dsimp only at hSw); go_simp) <;> with_reducible rfl
  (try simp only [Act.put, List.setIfInBounds_toArray, List.set_cons_zero, List.set_cons_succ, List.getElem_toArray, List.getElem_cons_zero, List.getElem_cons_succ])
  refine wpAnyH_take (i := 8) (v := ?_) rfl (by kernel_rfl) (by kernel_rfl) (by kernel_rfl) (fun _ _ _ h => h) (Or.inl ⟨by rfl, ?_⟩) hHeld ?_
  rotate_left
  · (intro w hSw; (try dsimp only at hSw); go_simp) <;> with_reducible rfl
  (try simp only [Act.put, List.setIfInBounds_toArray, List.set_cons_zero, List.set_cons_succ, List.getElem_toArray, List.getElem_cons_zero, List.getElem_cons_succ])
  refine wpAnyH_take (i := 9) (v := ?_) rfl (by kernel_rfl) (by kernel_rfl) (by kernel_rfl) (fun _ _ _ h => h) (Or.inl ⟨by rfl, ?_⟩) hHeld ?_
  rotate_left
  · (intro w hSw; (try dsimp only at hSw); go_simp) <;> with_reducible rfl
  (try simp only [Act.put, List.setIfInBounds_toArray, List.set_cons_zero, List.set_cons_succ, List.getElem_toArray, List.getElem_cons_zero, List.getElem_cons_succ])
  refine wpAnyH_take (i := 10) (v := ?_) rfl (by kernel_rfl) (by kernel_rfl) (by kernel_rfl) (fun _ _ _ h => h) (Or.inl ⟨by rfl, ?_⟩) hHeld ?_
  rotate_left
  · (intro w hSw; (try dsimp only at hSw); go_simp) <;> with_reducible rfl
  (try simp only [Act.put, List.setIfInBounds_toArray, List.set_cons_zero, List.set_cons_succ, List.getElem_toArray, List.getElem_cons_zero, List.getElem_cons_succ])
  refine wpAnyH_take (i := 11) (v := ?_) rfl (by kernel_rfl) (by kernel_rfl) (by kernel_rfl) (fun _ _ _ h => h) (Or.inl ⟨by rfl, ?_⟩) hHeld ?_
  rotate_left
  · (intro w hSw; (try dsimp only at hSw); go_simp) <;> with_reducible rfl
  (try simp only [Act.put, List.setIfInBounds_toArray, List.set_cons_zero, List.set_cons_succ, List.getElem_toArray, List.getElem_cons_zero, List.getElem_cons_succ])
  refine wpAnyH_take (i := 12) (v := ?_) rfl (by kernel_rfl) (by kernel_rfl) (by kernel_rfl) (fun _ _ _ h => h) (Or.inl ⟨by rfl, ?_⟩) hHeld ?_
  rotate_left
  · (intro w hSw; (try dsimp only at hSw); go_simp) <;> with_reducible rfl
  (try simp only [Act.put, List.setIfInBounds_toArray, List.set_cons_zero, List.set_cons_succ, List.getElem_toArray, List.getElem_cons_zero, List.getElem_cons_succ])
  refine wpAnyH_take (i := 13) (v := ?_) rfl (by kernel_rfl) (by kernel_rfl) (by kernel_rfl) (fun _ _ _ h => h) (Or.inl ⟨by rfl, ?_⟩) hHeld ?_
  rotate_left
  · (intro w hSw; (try dsimp only at hSw); go_simp) <;> with_reducible rfl
  (try simp only [Act.put, List.setIfInBounds_toArray, List.set_cons_zero, List.set_cons_succ, List.getElem_toArray, List.getElem_cons_zero, List.getElem_cons_succ])
  refine wpAnyH_ready (rs := [14]) (by kernel_rfl) (by simp) ?_
  refine AllReadyH.cons rfl (fun K hK => ?_) AllReadyH.nil
  go_simp
  obtain ⟨W4, hW4⟩ : ∃ W, (w1.alloc (.cells #[.int .i64 c, .slice Ak nd.keys.length ck, .slice Av nd.vals.length cv, .slice Ac nd.kids.length cc] 73)).drew = W := ⟨_, rfl⟩
  rw [hW4]
  have hg4 : Grew w1 W4 := hW4 ▸ ((Chg.refl NoF w1).alloc _).drew
  have hb4 : Blk W4 w1.heap.size 73 #[.int .i64 c, .slice Ak nd.keys.length ck, .slice Av nd.vals.length cv, .slice Ac nd.kids.length cc] := hW4 ▸ (Blk.new w1 _ _).drew
  have hz4 : W4.heap.size = w1.heap.size + 1 := by subst hW4; simp
  have hd4 : W4.cell? ⟨bn, 1, none⟩ = some (.slice Ak nd.keys.length ck) ∧ W4.cell? ⟨bn, 2, none⟩ = some (.slice Av nd.vals.length cv) ∧ W4.cell? ⟨bn, 3, none⟩ = some (.slice Ac nd.kids.length cc) := by
    have h9 := H1.out.2.2.2.2.1.grew hg4
    exact ⟨h9.cell 1, h9.cell 2, h9.cell 3⟩
  refine hK.out _ _ hd4 (fun _ => ?_)
  clear hK K
  (try simp only [Act.put, List.setIfInBounds_toArray, List.set_cons_zero, List.set_cons_succ, List.getElem_toArray, List.getElem_cons_zero, List.getElem_cons_succ])
  refine wpAnyH_ready (rs := [15]) (by kernel_rfl) (by simp) ?_
  refine AllReadyH.cons rfl (fun K hK => ?_) AllReadyH.nil
  go_simp
  refine hK.out _ _ hd4 (fun _ => ?_)
  clear hK K
  (try simp only [Act.put, List.setIfInBounds_toArray, List.set_cons_zero, List.set_cons_succ, List.getElem_toArray, List.getElem_cons_zero, List.getElem_cons_succ])
  refine wpAnyH_done (by kernel_rfl) ?_ _
  clear hHeld hd1 hd4 hW4
  have hb1' := H1.out.1.grew hg4
  obtain ⟨c0, f0, s0⟩ := hb1'.blk.facts
  obtain ⟨W5, hW5⟩ : ∃ W, W4.alloc (.cells #[.int .i64 c] 3) = W := ⟨_, rfl⟩
  obtain ⟨W6, hW6⟩ : ∃ W, W5.alloc (.cells #[.int .i64 root, .slice none 0 0, .slice none 0 0, .slice (some ⟨W4.heap.size, 0, none⟩) 1 1] 73) = W := ⟨_, rfl⟩
  have hg45 : Grew W4 W5 := hW5 ▸ (Chg.refl _ _).alloc _
  have hg56 : Grew W5 W6 := hW6 ▸ (Chg.refl _ _).alloc _
  have hz5 : W5.heap.size = W4.heap.size + 1 := by subst hW5; simp
  have hz6 : W6.heap.size = W5.heap.size + 1 := by subst hW6; simp
  have hrow : W5.ownsRow 1 3 1 (.slice (some ⟨W4.heap.size, 0, none⟩) 1 1) 1 (nv [c]) := by
    subst hW5
    have := World.ownsRow_lit W4 #[.int .i64 c] 1 (tab_pos hb1'.gp.tab) (by simp [maxLen]) (by simp) (e := 3) (size := 1) (base := 1)
    simpa [nv] using this
  have htop : Blk W6 W5.heap.size 73 #[.int .i64 root, .slice none 0 0, .slice none 0 0, .slice (some ⟨W4.heap.size, 0, none⟩) 1 1] := hW6 ▸ Blk.new _ _ _
  have hg16 : Grew w1 W6 := Grew.trans hg4 (Grew.trans hg45 hg56)
  have hsz1 := H1.out.2.1.size
  have hown : NdOwn W6 (fun j => j = W4.heap.size ∨ j = W5.heap.size) W5.heap.size root ⟨[], [], [c]⟩ :=
    ⟨none, 0, none, 0, some ⟨W4.heap.size, 0, none⟩, 1, htop, World.ownsRow_nil _ _ _ _, World.ownsRow_nil _ _ _ _, own_grew hrow hg56, Or.inr rfl, (fun a ha => by cases ha), (fun a ha => by cases ha), (fun a ha => by cases ha; exact Or.inl rfl), (fun j hj => by rcases hj with e | e <;> omega), (fun a a' ha => by cases ha), (fun a a' ha => by cases ha), (fun a a' ha => by cases ha)⟩
  have hkid : NdOwn W6 (fun j => (N j ∧ j ≠ bn) ∨ j = w1.heap.size) w1.heap.size c nd := H1.out.2.2.2.2.2 W6 w1.heap.size c hg16 (Nat.le_refl _) (hb4.grew (Grew.trans hg45 hg56))
  have hNlt : ∀ j, N j → j < w.heap.size := fun j hj => H.out.2.2.2.2.1.at.lt j hj
  have hF1lt : ∀ j, F1 j → j < w1.heap.size := fun j hj => H1.out.1.gp.lt j hj
  have htl := H.out.2.1.blk.lt
  have hpos := tab_pos H.out.2.1.gp.tab
  have hNF1 : ∀ j, N j → ¬ F1 j := fun j hj e => (H1.out.2.2.1 j e).elim (H.out.2.2.2.2.2.2.2.1 j hj) fun e => by have := hNlt j hj; omega
  have hSp : Sp W6 t p root F1 (x.put c .zero) (fun j => j = W4.heap.size ∨ j = W5.heap.size) (fun j => (N j ∧ j ≠ bn) ∨ j = w1.heap.size) w1.heap.size c nd :=
    ⟨H1.out.1.grew hg16, hkid, fun j hj e => by
      rcases e with ⟨e, -⟩ | e
      · have := hNlt j e; rcases hj with hj | hj <;> omega
      · rcases hj with hj | hj <;> omega, fun j hj => ⟨fun e => by have := hF1lt j e; rcases hj with hj | hj <;> omega, by rcases hj with hj | hj <;> omega, by rcases hj with hj | hj <;> omega, by rcases hj with hj | hj <;> omega⟩, fun j hj e => by
      rcases hj with ⟨hj, -⟩ | hj
      · exact hNF1 j hj e
      · have := hF1lt j e; omega⟩
  have hft := H.out.2.1.gp.fit H.out.2.2.2.2.2.1
  have hz := H.out.2.2.2.2.2.2.2.2.2
  have hcl := (List.getElem?_eq_some_iff.1 H1.out.2.2.2.1).1
  obtain ⟨ct, ht1, ht2⟩ := H.out.2.2.2.1.pgs root H.out.2.2.2.1.tr.root_mem
  have hfl := H.out.2.2.2.2.2.2.1
  have h2h := half_two hz.2.2.1
  have hspl := bsplit_any t p root W5.heap.size root 0 w1.heap.size c (halfN x.sz) F1 _ _ (x.put c .zero) ⟨[], [], [c]⟩ nd W6 hSp hown rfl h2h H.out.2.2.1 hfl (hft.1.vals.trans hfl) (by rcases hft.1.kids with e | e <;> omega) (by simp only [List.length_nil]; omega) rfl rfl (Nat.le_refl _)
    ⟨rfl, Nat.zero_le _, .inr rfl, fun k h => (by cases h), fun k h => (by cases h), fun k h => by rw [List.mem_singleton] at h; omega⟩ hft.1 (Rp.put_same ht1 ht2 rfl) ⟨.zero, by rw [Rp.put_at hcl, if_pos rfl], rfl⟩
    ⟨fun e => e.elim (fun e => H.out.2.2.2.2.2.2.2.2.1.1 e.1) fun e => by omega, fun e => e.elim (fun e => H.out.2.2.2.2.2.2.2.2.1.2 e.1) fun e => by omega⟩
  rw [show ((0 : Nat) : Int) = 0 from rfl, hz5] at hspl
  have H6 := Lib.hid (And.intro hspl (And.intro hg16 (And.intro hW5 (And.intro hW6 (And.intro hNlt (And.intro hz4 hz5))))))
  clear hspl hg16 hW5 hW6 hown hkid hSp htop hrow hg45 hg56 hb4 hg4 hft hz hcl ht1 ht2 hfl h2h hb1' hNF1 hNlt hF1lt hz4 hz5 hz6
  go_wp2_with fail
  rw [H6.out.2.2.1, H6.out.2.2.2.1]
  have z1 := H1.out.2.1.size
  have z6 := H6.out.2.1.size
  have z4 := H6.out.2.2.2.2.2.1
  have hNlt := H6.out.2.2.2.2.1
  have hc6 : Chg (fun j => F j ∨ N j) w W6 := (H1.out.2.1.mono fun j _ e => .inl e).grew H6.out.2.1
  have hG6 : ∀ j, j < w.heap.size → (F1 j ∨ (j = W4.heap.size ∨ j = W4.heap.size + 1) ∨ ((N j ∧ j ≠ bn) ∨ j = w1.heap.size)) → F j ∨ N j := fun j hj e => by
    rcases e with e | e | e
    · exact .inl ((H1.out.2.2.1 j e).resolve_right (by omega))
    · omega
    · rcases e with e | e
      · exact .inr e.1
      · omega
  have hz := H.out.2.2.2.2.2.2.2.2.2
  have hus1 := Rp.put_usedN (c := .zero) H1.out.2.2.2.1 rfl
  have hF6 : ∀ j, F1 j → F j ∨ w.heap.size ≤ j := H1.out.2.2.1
  have HP := Lib.hid (And.intro hc6 (And.intro hG6 (And.intro hF6 (And.intro z1 (And.intro z6 (And.intro z4 hus1))))))
  clear hc6 hG6 hF6 hNlt z1 z6 z4 hus1 hz
  refine H6.out.1.mono ?_
  rintro e w' (⟨rfl, r, k0, v0, F', N', hr, hk0, hv0, hbt', hcg, hFn, hno, hdis, hNn, ff1, ff2, ff3⟩ | ⟨rfl, hfu⟩)
  · obtain ⟨P', hts, hnr, hus⟩ := H.out.2.2.2.1.grow H.out.2.2.2.2.2.1 H1.out.2.2.2.1 hr (half_two H.out.2.2.2.2.2.2.2.2.2.2.2.1) H.out.2.2.2.2.2.2.1 H.out.2.2.2.2.2.2.2.2.2.2.2.2.1 hk0 hv0 ff1 ff2 ff3
    have hout : GwOut (fun j => F j ∨ N j) w w' t p root F x D L (.returned (.tuple #[.pointer (some ⟨W4.heap.size + 1, 0, none⟩), .int .i64 0])) := by
      obtain ⟨hc6, hG6, hF6, z1, z6, z4, hus1⟩ := HP.out
      refine .inl ⟨_, N', _, F', _, P', rfl, hbt', Chg.trans hc6 hcg hG6, fun j hj => (hFn j hj).elim (hF6 j) fun e => .inr (by omega), hno, hdis, fun j hj => (hNn j hj).elim (fun e => by omega) fun e => by omega, hts, (x.put_like _ _).trans Rp.splitP_like, hnr, by simp [Nd.ins, insI], hus⟩
    have HO := Lib.hid hout
    clear hout hts hnr hus hr hk0 hv0 hbt' hcg hFn hno hdis hNn ff1 ff2 ff3
    go_wp2_with fail
    go_ret2
    exact HO.out
  · have hout : GwOut (fun j => F j ∨ N j) w w' t p root F x D L (.returned (.tuple #[.pointer (some ⟨W4.heap.size + 1, 0, none⟩), .int .i64 21])) := by
      obtain ⟨hc6, hG6, hF6, z1, z6, z4, hus1⟩ := HP.out
      exact .inr ⟨_, rfl, hfu.more (x.put_like _ _) (by omega) hc6 hF6 hG6⟩
    have HO := Lib.hid hout
    clear hout hfu
    go_wp2_with fail
    go_ret2
    exact HO.out
end Go.Proofs.YtpkkcicaeldodaaGreatDoor

/- A drawn region whose last operations write what its loads read: an operation that reads no memory is taken first though it may stand behind a store. No program stands in this text. -/
namespace Go.Proofs.YtpkkcicaeldodaaGreatDoor
open Go.RowKit

section
variable {P : Program} {ops : Array Oper} {Q : Exit → Act → World → Prop} {md : Region.Mode} {S : World → Prop} {X X' : List Nat}
theorem wpAnyX_mono (h : ∀ i, X'.contains i = true → X.contains i = true) : ∀ (fuel : Nat) (listed : Array Bool) (a : Act) (w : World), wpAnyX P md ops Q S X' fuel listed a w → wpAnyX P md ops Q S X fuel listed a w
  | 0, _, _, _, H => H
  | fuel + 1, _, _, _, H => ⟨H.1, fun i hi => wpOp_mono (fun a' w' h' => ⟨fun e => h'.1 (by
      cases hc : X'.contains i with
      | false => rfl
      | true => rw [h i hc] at e; cases e), wpAnyX_mono h fuel _ a' w' h'.2⟩) (H.2 i hi)⟩
theorem wpAnyX_firstP {i : Nat} {oi : Oper} {v : Value} (hi : ops[i]? = some oi) (hsel : ∀ (j : Nat) (o : Oper) cs b, ops[j]? = some o → o.op ≠ .select cs b)
    (hQ : ∀ c a w, Q (.panic c) (a.put oi.dst v) w → Q (.panic c) a w) (hXi : X.contains i = true) (fuel : Nat) : ∀ (listed : Array Bool) (a : Act) (w : World),
      (∀ j oj, ops[j]? = some oj → j ≠ i → listed.getD j true = false → (∀ e ∈ oj.after, Region.binds md e = true → e.on ≠ i) → oi.apart ops oj = true) →
      i ∈ Region.ready md ops listed → YieldsIf P ops (fun _ => True) oi v a →
      wpAnyX P md ops Q S X fuel (listed.setIfInBounds i true) (a.put oi.dst v) w → wpAnyX P md ops Q S X (fuel + 1) listed a w := by
  induction fuel with
  | zero =>
    intro listed a w _ hr hy H
    refine ⟨fun h => absurd hr (by rw [h]; simp), fun j hj => ?_⟩
    rcases Nat.decEq j i with hji | hji
    · have := ready_mono hj hji
      rw [H.1] at this
      cases this
    · subst hji
      exact hy.wpOp hi trivial ⟨fun e => by (rw [hXi] at e; cases e), H⟩
  | succ fuel ih =>
    intro listed a w hfree hr hy H
    refine ⟨fun h => absurd hr (by rw [h]; simp), fun j hj => ?_⟩
    rcases Nat.decEq j i with hji | hji
    · obtain ⟨hun, oj, hoj, hall⟩ := mem_ready.1 hj
      have hiun := (mem_ready.1 hr).1
      have hnot : ∀ e ∈ oj.after, Region.binds md e = true → e.on ≠ i := by
        intro e he hb heq
        have hl := hall e he hb
        rw [heq] at hl
        by_cases hsz : i < listed.size
        · simp [hsz] at hiun hl; rw [hiun] at hl; cases hl
        · simp [Array.getElem?_eq_none (Nat.le_of_not_lt hsz)] at hl
      have step := wpOp_putIf hoj (hfree j oj hoj hji hun hnot) (fun cs b => hsel i oi cs b hi) (fun cs b => hsel j oj cs b hoj) hQ hy (H.2 j (ready_mono hj hji))
      refine wpOp_mono (fun a' w' h3 => ?_) step
      refine ⟨h3.2.1, ih (listed.setIfInBounds j true) a' w' (fun k ok hk hki hkun hno => hfree k ok hk hki ?_ hno) (ready_mono hr (Ne.symm hji)) h3.1 (by rw [Array.setIfInBounds_comm _ _ hji]; exact h3.2.2)⟩
      rcases Nat.decEq j k with hjk | hjk
      · rwa [getD_set_ne true hjk] at hkun
      · exact hjk ▸ hun
    · subst hji
      exact hy.wpOp hi trivial ⟨fun e => by (rw [hXi] at e; cases e), H⟩
theorem wpAnyX_takeP {i : Nat} {oi : Oper} {v : Value} {fuel : Nat} {listed : Array Bool} {a : Act} {w : World} (hi : ops[i]? = some oi)
    (hs : Region.noSelect ops = true) (hf : Region.free md ops listed i = true) (hr : (Region.ready md ops listed).contains i = true) (hXi : X.contains i = true)
    (hQ : ∀ c a w, Q (.panic c) (a.put oi.dst v) w → Q (.panic c) a w) (hy : YieldsIf P ops (fun _ => True) oi v a)
    (h : wpAnyX P md ops Q S X fuel (listed.setIfInBounds i true) (a.put oi.dst v) w) : wpAnyX P md ops Q S X (fuel + 1) listed a w :=
  wpAnyX_firstP hi (Region.noSelect_spec hs) hQ hXi fuel listed a w (Region.free_spec hi hf) (by simpa using hr) hy h
end
end Go.Proofs.YtpkkcicaeldodaaGreatDoor

/- The tree: a node's rows apart from its block; a value that is set. -/
namespace Go.Proofs.YtpkkcicaeldodaaGreatDoor
open Go.RowKit Go.Maps

section
variable {W W' : World} {N G : Nat → Prop} {b q : Nat} {nd : Nd} {vk vv vc v' : Value} {lk lv lc l' : List Value}
/-- The rows of a node, without its block. -/
structure Rws (W : World) (N : Nat → Prop) (vk vv vc : Value) (lk lv lc : List Value) : Prop where
  rk : W.ownsRow 1 3 1 vk lk.length lk
  rv : W.ownsRow 1 3 1 vv lv.length lv
  rc : W.ownsRow 1 3 1 vc lc.length lc
  nk : ∀ g, vk.ownBlock = some g → N g
  nv : ∀ g, vv.ownBlock = some g → N g
  nc : ∀ g, vc.ownBlock = some g → N g
  lt : ∀ j, N j → j < W.heap.size
  kv : ∀ g, vk.ownBlock = some g → vv.ownBlock ≠ some g
  kc : ∀ g, vk.ownBlock = some g → vc.ownBlock ≠ some g
  vc_ : ∀ g, vv.ownBlock = some g → vc.ownBlock ≠ some g
theorem NdV.rws (h : NdV W N b q vk vv vc lk lv lc) : Rws W N vk vv vc lk lv lc := ⟨h.rk, h.rv, h.rc, h.nk, h.nv, h.nc, h.lt, h.kv, h.kc, h.vc_⟩
theorem Rws.ndv (h : Rws W N vk vv vc lk lv lc) (hb : Blk W b 73 #[.int .i64 q, vk, vv, vc]) (hn : N b) : NdV W N b q vk vv vc lk lv lc := ⟨hb, h.rk, h.rv, h.rc, hn, h.nk, h.nv, h.nc, h.lt, h.kv, h.kc, h.vc_⟩
theorem Rws.chg (h : Rws W N vk vv vc lk lv lc) (hc : Chg G W W') (hk : ∀ g, vk.ownBlock = some g → ¬ G g) (hv : ∀ g, vv.ownBlock = some g → ¬ G g) (hcc : ∀ g, vc.ownBlock = some g → ¬ G g) : Rws W' N vk vv vc lk lv lc :=
  ⟨own_chg h.rk hc hk, own_chg h.rv hc hv, own_chg h.rc hc hcc, h.nk, h.nv, h.nc, fun j hj => Nat.lt_of_lt_of_le (h.lt j hj) hc.size, h.kv, h.kc, h.vc_⟩
theorem Rws.grew (h : Rws W N vk vv vc lk lv lc) (hc : Grew W W') : Rws W' N vk vv vc lk lv lc := h.chg hc (fun _ _ => id) (fun _ _ => id) fun _ _ => id
theorem Rws.setK (h : Rws W N vk vv vc lk lv lc) (ha : Ap W W' vk v') (ho : W'.ownsRow 1 3 1 v' l'.length l') : Rws W' (fun j => N j ∨ v'.ownBlock = some j) v' vv vc l' lv lc := by
  obtain ⟨a1, a2⟩ := ha.own h.rv h.kv
  obtain ⟨b1, b2⟩ := ha.own h.rc h.kc
  have hz1 := ha.chg.size
  refine ⟨ho, a1, b1, fun g hg => .inr hg, fun g hg => .inl (h.nv g hg), fun g hg => .inl (h.nc g hg), fun j hj => ?_, fun g hg e => a2 g hg e, fun g hg e => b2 g hg e, h.vc_⟩
  rcases hj with e | e
  · have := h.lt j e; omega
  · exact (ho.lt j e).2
theorem Rws.setV (h : Rws W N vk vv vc lk lv lc) (ha : Ap W W' vv v') (ho : W'.ownsRow 1 3 1 v' l'.length l') : Rws W' (fun j => N j ∨ v'.ownBlock = some j) vk v' vc lk l' lc := by
  obtain ⟨a1, a2⟩ := ha.own h.rk fun g hg e => h.kv g e hg
  obtain ⟨b1, b2⟩ := ha.own h.rc h.vc_
  have hz1 := ha.chg.size
  refine ⟨a1, ho, b1, fun g hg => .inl (h.nk g hg), fun g hg => .inr hg, fun g hg => .inl (h.nc g hg), fun j hj => ?_, fun g hg e => a2 g e hg, h.kc, fun g hg e => b2 g hg e⟩
  rcases hj with e | e
  · have := h.lt j e; omega
  · exact (ho.lt j e).2
theorem own_set {w : World} {base g n cap i : Nat} {xs : List Value} {u : Value} (h : w.ownsRow base 3 1 (.slice (some ⟨g, 0, none⟩) n cap) n xs) (hi : i < n) :
    (w.setCell ⟨g, i, none⟩ u).ownsRow base 3 1 (.slice (some ⟨g, 0, none⟩) n cap) n (xs.set i u) := by
  obtain ⟨cur, hb, hg, hnc, hcm, hcs, htake, hxl⟩ := own_row h
  have hB : Blk w g 3 cur := hg
  have hB2 := hB.put i u
  refine own_mk hb hB2 hnc hcm (by simpa using hcs) (by rw [List.length_set]; omega) fun j hj => ?_
  rw [Array.getElem?_setIfInBounds, List.getElem?_set]
  have hj2 : cur[j]? = xs[j]? := by
    rw [← htake, List.getElem?_take, if_pos (by omega)]
    simp
  by_cases e : i = j
  · subst e
    rw [if_pos rfl, if_pos rfl, if_pos (by omega), if_pos (by omega)]
  · rw [if_neg e, if_neg e, hj2]
end
/-- A value of a node is set. -/
theorem NdOwn.setVal {W : World} {N : Nat → Prop} {b q : Nat} {nd : Nd} {i : Nat} (h : NdOwn W N b q nd) (hi : i < nd.vals.length) :
    ∃ gv ck cv cc Ak Ac, Blk W b 73 #[.int .i64 q, .slice Ak nd.keys.length ck, .slice (some ⟨gv, 0, none⟩) nd.vals.length cv, .slice Ac nd.kids.length cc] ∧ N gv ∧ gv < W.heap.size ∧ (∃ u, W.cell? ⟨gv, i, none⟩ = some u) ∧ W.frozen? ⟨gv, i, none⟩ = false ∧
      ∀ (v : Int) (W2 : World), W.setCell ⟨gv, i, none⟩ (.int .i64 v) = W2 → NdOwn W2 N b q { nd with vals := nd.vals.set i v } ∧ Chg N W W2 := by
  obtain ⟨vk, vv, vc, hV⟩ := h.v
  have hne := hV.ne
  have rk := hV.rk
  have rv := hV.rv
  have rc := hV.rc
  rw [iv_len] at rk rv
  rw [nv_len] at rc
  obtain ⟨Ak, ck, rfl, -⟩ := own_shape rk
  obtain ⟨Av, cv, rfl, -⟩ := own_shape rv
  obtain ⟨Ac, cc, rfl, -⟩ := own_shape rc
  obtain ⟨gv, rfl, hgl⟩ := own_block rv (by omega)
  have hown : (Value.slice (some ⟨gv, 0, none⟩) nd.vals.length cv).ownBlock = some gv := own_blockOf rv _ rfl
  obtain ⟨cur, hb, hg, hnc, hcm, hcs, htake, hxl⟩ := own_row rv
  have hB : Blk W gv 3 cur := hg
  have hcell : W.cell? ⟨gv, i, none⟩ = some cur[i] := by rw [hB.cell]; exact Array.getElem?_eq_getElem (by omega)
  refine ⟨gv, ck, cv, cc, Ak, Ac, hV.blk, hV.nv _ hown, hgl, ⟨_, hcell⟩, hB.frozen i, fun v W2 hW => ?_⟩
  have hc : Chg (fun j => j = gv) W W2 := hW ▸ (Chg.refl (fun j => j = gv) W).setCell (p := ⟨gv, i, none⟩) (fun _ => rfl) _
  have hl : (iv (nd.vals.set i v)).length = nd.vals.length := by rw [iv_len, List.length_set]
  refine ⟨NdV.own (vk := .slice Ak nd.keys.length ck) (vv := .slice (some ⟨gv, 0, none⟩) nd.vals.length cv) (vc := .slice Ac nd.kids.length cc) (nd := { nd with vals := nd.vals.set i v })
    ⟨hV.blk.chg hc fun e => hne.2.1 (by rw [e]; exact hown), own_chg hV.rk hc fun g hg e => hV.kv g hg (by rw [e]; exact hown), ?_, own_chg hV.rc hc fun g hg e => hV.vc_ gv hown (by rw [← e]; exact hg), hV.nb, hV.nk, hV.nv, hV.nc, fun j hj => Nat.lt_of_lt_of_le (hV.lt j hj) hc.size, hV.kv, hV.kc, hV.vc_⟩, hc.mono fun j _ e => by subst e; exact hV.nv _ hown⟩
  rw [hl]
  have := own_set (u := .int .i64 v) rv hi
  rw [hW] at this
  have e : (iv nd.vals).set i (.int .i64 v) = iv (nd.vals.set i v) := by simp [iv, List.map_set]
  rw [e] at this
  exact this
end Go.Proofs.YtpkkcicaeldodaaGreatDoor

/- The tree: what Put keeps on its way, and leaves. -/
namespace Go.Proofs.YtpkkcicaeldodaaGreatDoor
open Go.RowKit Go.Maps

theorem WayAt.whole {rd : Nat → Option Nd} {h D root : Nat} {k : Int} {L : List KV} {P : List Nat} {d q : Nat} {nd : Nd} {A M B : List KV} {P1 PM P2 : List Nat} (a : WayAt rd h D root k L P d q nd A M B P1 PM P2) : Tr rd h D root L P := by
  have := a.ctx.plug rd M PM (fun _ _ => rfl) (fun _ _ => rfl) a.tr a.occ
  rwa [← a.l, ← a.p] at this
theorem TS.depth {x : Rp} {D root : Nat} {L : List KV} {P : List Nat} (h : TS x D root L P) (hh : 2 ≤ halfN x.sz) (hl : L.length ≤ 1000) : D ≤ 9 := by
  rcases h.tr.deep hh with e | e
  · omega
  · by_cases hD : D ≤ 9
    · exact hD
    · have : 2 ^ 10 ≤ 2 ^ (D + 1) := Nat.pow_le_pow_right (by omega) (by omega)
      omega
/-- A page of the tree is written. -/
theorem TS.write {x : Rp} {D root q : Nat} {L L' : List KV} {P : List Nat} {bs : List Int} (h : TS x D root L P) (hq : q ∈ P) (t : Tr (x.put q (.new bs)).nd (halfN x.sz) D root L' P) (hs : Srt L') : TS (x.put q (.new bs)) D root L' P := by
  obtain ⟨c, h1, h2⟩ := h.pgs q hq
  refine ⟨t, h.nd, hs, ?_⟩
  rw [Rp.put_usedU h1 h2 rfl, h.used]
theorem WayAt.q_mem {rd : Nat → Option Nd} {h D root : Nat} {k : Int} {L : List KV} {P : List Nat} {d q : Nat} {nd : Nd} {A M B : List KV} {P1 PM P2 : List Nat} (a : WayAt rd h D root k L P d q nd A M B P1 PM P2) : q ∈ P := by
  rw [a.p]
  exact List.mem_append_left _ (List.mem_append_right _ a.tr.root_mem)
/-- What Put leaves. -/
def PuOut (w w' : World) (t p root : Nat) (F : Nat → Prop) (x : Rp) (D0 : Nat) (k v : Int) (L : List KV) (e : Ending) : Prop :=
  (e = .returned (.int .i64 0) ∧ ∃ y F' D P, BT w' t p root F' y ∧ Rch F F' w w' ∧ x.like y ∧ TS y D root (putL L k v) P) ∨ (e = .returned (.int .i64 21) ∧ Full w w' t p root F x (D0 + 4))
theorem FullG.full {w w' : World} {t p root m m' : Nat} {F : Nat → Prop} {x : Rp} (h : FullG F w w' t p root F x m) (hm : m ≤ m') : Full w w' t p root F x m' := by
  obtain ⟨z, F', h1, h2, h3, h4, h5, h6⟩ := h
  exact ⟨z, ⟨F', h1, h2, h3⟩, h4, by omega, h6⟩
/-- On the way. -/
structure PuJ (w W : World) (t p root : Nat) (F : Nat → Prop) (x : Rp) (k : Int) (L : List KV) (bn d q : Nat) (nd : Nd) (F' : Nat → Prop) (y : Rp) (D : Nat) (P : List Nat) (A M B : List KV) (P1 PM P2 : List Nat) (N : Nat → Prop) (D0 : Nat) : Prop where
  bt : BT W t p root F' y
  rch : Rch F F' w W
  like : x.like y
  ts : TS y D root L P
  way : WayAt y.nd (halfN y.sz) D root k L P d q nd A M B P1 PM P2
  own : NdOwn W N bn q nd
  nF : ∀ j, N j → ¬ F' j
  nw : ∀ j, N j → w.heap.size ≤ j
  room : nd.keys.length + 1 ≤ 2 * halfN y.sz - 1
  used : y.now.countP Pk.used + d ≤ x.now.countP Pk.used + 2 + D
  dep : D ≤ D0 + 1
  tl : t < w.heap.size
theorem nd_put_fit {nd : Nd} {sz i : Nat} {k v : Int} (f : nd.Fit sz) (hi : i ≤ nd.keys.length) (hm : nd.keys.length + 1 ≤ mostN sz) (hk : i64 k) (hv : i64 v) : (⟨insI nd.keys i k, insI nd.vals i v, []⟩ : Nd).Fit sz := by
  have l1 := insI_len (l := nd.keys) (i := i) k hi
  have l2 := insI_len (l := nd.vals) (i := i) v (by rw [f.vals]; exact hi)
  have hvl := f.vals
  exact ⟨by simp only; omega, by simp only; omega, .inl rfl, fun a ha => (insI_mem ha).elim (fun e => e ▸ hk) (f.ki a), fun a ha => (insI_mem ha).elim (fun e => e ▸ hv) (f.vi a), fun c hc => (by cases hc)⟩
theorem half_most {sz : Nat} (h : 64 ≤ sz) : 2 * halfN sz - 1 ≤ mostN sz := by unfold halfN; unfold mostN; omega
section
variable {w W : World} {t p root : Nat} {F : Nat → Prop} {x : Rp} {k v : Int} {L : List KV} {bn d q : Nat} {nd : Nd} {F' : Nat → Prop} {y : Rp} {D : Nat} {P : List Nat} {A M B : List KV} {P1 PM P2 : List Nat} {N : Nat → Prop} {D0 : Nat}
theorem PuJ.fail (h : PuJ w W t p root F x k L bn d q nd F' y D P A M B P1 PM P2 N D0) {W1 w' : World} {G G1 : Nat → Prop} {m : Nat} (hc : Chg G1 W W1) (hG1 : ∀ j, G1 j → F' j ∨ w.heap.size ≤ j) (hf : FullG G W1 w' t p root F' y m) (hm : m ≤ 1) (hG : ∀ j, G j → F' j ∨ w.heap.size ≤ j) : Full w w' t p root F x (D0 + 4) := by
  have hu := h.used
  have hd := h.dep
  have hF' : ∀ j, j < w.heap.size → F' j → F j := fun j hj e => (h.rch.new j e).resolve_right (by omega)
  have h1 : Chg F w W1 := Chg.trans h.rch.chg hc fun j hj e => hF' j hj ((hG1 j e).resolve_right (by omega))
  exact (hf.more (m' := D0 + 4) h.like (by omega) h1 h.rch.new fun j hj e => hF' j hj ((hG j e).resolve_right (by omega))).full (Nat.le_refl _)
/-- The leaf was saved. -/
theorem PuJ.put (h : PuJ w W t p root F x k L bn 0 q nd F' y D P A M B P1 PM P2 N D0) (hk : getK L k = none) {W1 w' : World} {G1 : Nat → Prop} (hc : Chg G1 W W1) (hG1 : ∀ j, G1 j → F' j ∨ w.heap.size ≤ j) (hz : y.sz ≤ 4096)
    (hto : BTTo W1 w' t p root F' (y.put q (.new (ndL ⟨insI nd.keys (atI nd.keys k) k, insI nd.vals (atI nd.keys k) v, []⟩ y.sz)))) (hfit : (⟨insI nd.keys (atI nd.keys k) k, insI nd.vals (atI nd.keys k) v, []⟩ : Nd).Fit y.sz) :
    ∃ y F' D P, BT w' t p root F' y ∧ Rch F F' w w' ∧ x.like y ∧ TS y D root (putL L k v) P := by
  obtain ⟨F2, h1, h2, h3⟩ := hto
  have hsz := hc.size
  have hw := h.rch.chg.size
  have hF' : ∀ j, j < w.heap.size → F' j → F j := fun j hj e => (h.rch.new j e).resolve_right (by omega)
  have hr1 : Chg F w W1 := Chg.trans h.rch.chg hc fun j hj e => hF' j hj ((hG1 j e).resolve_right (by omega))
  obtain ⟨c, p1, p2⟩ := h.ts.pgs q h.way.q_mem
  have ht := h.way.put (v := v) h.ts.srt h.ts.nd (h.way.miss hk) h.room (Rp.nd_new hfit (List.getElem?_eq_some_iff.1 p1).1 hz) fun i _ hi => Rp.nd_other hi
  exact ⟨_, F2, D, P, h1, ⟨Chg.trans hr1 h2 fun j hj e => hF' j hj e, fun j hj => (h3 j hj).elim (h.rch.new j) fun e => .inr (by omega)⟩, h.like.trans (y.put_like _ _), h.ts.write h.way.q_mem ht (putL_srt h.ts.srt k v)⟩
/-- One node down. -/
theorem PuJ.down (h : PuJ w W t p root F x k L bn (d + 1) q nd F' y D P A M B P1 PM P2 N D0) {W1 : World} {b3 c : Nat} {kd : Nd} {N3 : Nat → Prop} {A' M' B' : List KV} {P1' PM' P2' : List Nat} (hw : WayAt y.nd (halfN y.sz) D root k L P d c kd A' M' B' P1' PM' P2') (hc : Chg F' W W1) (hb : BT W1 t p root F' y) (hn : NdOwn W1 N3 b3 c kd) (hN : ∀ j, N3 j → W.heap.size ≤ j) (hr : kd.keys.length + 1 ≤ 2 * halfN y.sz - 1) :
    PuJ w W1 t p root F x k L b3 d c kd F' y D P A' M' B' P1' PM' P2' N3 D0 := by
  have hsz := h.rch.chg.size
  have hlt := h.bt.gp.lt
  exact ⟨hb, h.rch.trans ⟨hc, fun j e => .inl e⟩, h.like, h.ts, hw, hn, fun j hj e => by have := hN j hj; have := hlt j e; omega, fun j hj => by have := hN j hj; omega, hr, by have := h.used; omega, h.dep, h.tl⟩
/-- The child was split. -/
theorem PuJ.split (h : PuJ w W t p root F x k L bn (d + 1) q nd F' y D P A M B P1 PM P2 N D0) (hk : getK L k = none) {W1 w' : World} {c r : Nat} {kd : Nd} {N' F2 : Nat → Prop} {k0 v0 : Int} {G : Nat → Prop} (hci : nd.kids[atI nd.keys k]? = some c) (hkd : y.nd c = some kd) (hf : kd.keys.length = 2 * halfN y.sz - 1) (hh : 2 ≤ halfN y.sz) (hz : y.sz ≤ 4096)
    (hr : y.now[r]? = some .no) (hk0 : kd.keys[halfN y.sz - 1]? = some k0) (hv0 : kd.vals[halfN y.sz - 1]? = some v0) (hb : BT w' t p root F2 (y.splitP r c q (kd.hi (halfN y.sz)) (kd.lo (halfN y.sz)) (nd.ins (atI nd.keys k) k0 v0 r)))
    (hc1 : Chg F' W W1) (hc : Chg G W1 w') (hG : ∀ j, G j → F' j ∨ w.heap.size ≤ j) (hF2 : ∀ j, F2 j → F' j ∨ W1.heap.size ≤ j) (hn : NdOwn w' N' bn q (nd.ins (atI nd.keys k) k0 v0 r)) (hnF : ∀ j, N' j → ¬ F2 j) (hnw : ∀ j, N' j → N j ∨ W1.heap.size ≤ j)
    (f1 : (kd.hi (halfN y.sz)).Fit y.sz) (f2 : (kd.lo (halfN y.sz)).Fit y.sz) (f3 : (nd.ins (atI nd.keys k) k0 v0 r).Fit y.sz) :
    ∃ P' PM' e ke A' M' B' P1' PM2 P2', (BT w' t p root F2 (y.splitP r c q (kd.hi (halfN y.sz)) (kd.lo (halfN y.sz)) (nd.ins (atI nd.keys k) k0 v0 r)) ∧ Rch F F2 w w' ∧ x.like (y.splitP r c q (kd.hi (halfN y.sz)) (kd.lo (halfN y.sz)) (nd.ins (atI nd.keys k) k0 v0 r)) ∧
      TS (y.splitP r c q (kd.hi (halfN y.sz)) (kd.lo (halfN y.sz)) (nd.ins (atI nd.keys k) k0 v0 r)) D root L P' ∧ WayAt (y.splitP r c q (kd.hi (halfN y.sz)) (kd.lo (halfN y.sz)) (nd.ins (atI nd.keys k) k0 v0 r)).nd (halfN y.sz) D root k L P' (d + 1) q (nd.ins (atI nd.keys k) k0 v0 r) A M B P1 PM' P2) ∧
      (nd.ins (atI nd.keys k) k0 v0 r).kids[atI (nd.ins (atI nd.keys k) k0 v0 r).keys k]? = some e ∧ WayAt (y.splitP r c q (kd.hi (halfN y.sz)) (kd.lo (halfN y.sz)) (nd.ins (atI nd.keys k) k0 v0 r)).nd (halfN y.sz) D root k L P' d e ke A' M' B' P1' PM2 P2' ∧ ke.keys.length + 1 ≤ 2 * halfN y.sz - 1 ∧
      (y.splitP r c q (kd.hi (halfN y.sz)) (kd.lo (halfN y.sz)) (nd.ins (atI nd.keys k) k0 v0 r)).now.countP Pk.used = y.now.countP Pk.used + 1 := by
  have hrP := h.ts.new hr
  have hqP := h.way.q_mem
  obtain ⟨cq, q1, q2⟩ := h.ts.pgs q hqP
  obtain ⟨cc, c1, c2, -⟩ := Rp.nd_some hkd
  have hcP : c ∈ P := by
    obtain ⟨e, nd', A', M', B', P1', PM', P2', g1, g2⟩ := h.way.down h.ts.srt (h.way.miss hk)
    rw [hci] at g1; cases g1
    exact g2.q_mem
  have hrc : r ≠ c := fun e => hrP (e ▸ hcP)
  have hrq : r ≠ q := fun e => hrP (e ▸ hqP)
  have hcq : c ≠ q := fun e => by
    subst e
    obtain ⟨nd', P0, g1, g2, g3, g4, g5, g6⟩ := h.way.tr
    rw [h.way.nd] at g1; cases g1
    obtain ⟨e1, e2, e3, e4⟩ := h.way.apart h.ts.nd
    obtain ⟨M', Q, t1, t2⟩ := g5.mem (List.mem_of_getElem? hci)
    rw [g6] at e3
    exact (List.nodup_cons.1 e3).1 (t2 c t1.1.root_mem)
  obtain ⟨k1, v1, g1, g2, g3⟩ := h.way.split (r := r) h.ts.nd hh hci hkd hf h.room hrP
  rw [hk0] at g1; cases g1
  rw [hv0] at g2; cases g2
  obtain ⟨n1, n2, n3, n4⟩ := Rp.splitP_nd (x := y) (r := r) (qk := c) (qn := q) (List.getElem?_eq_some_iff.1 hr).1 (List.getElem?_eq_some_iff.1 c1).1 (List.getElem?_eq_some_iff.1 q1).1 f1 f2 f3 hz hrc hrq hcq
  obtain ⟨P', PM', w1, w2⟩ := g3 _ n2 n1 n3 fun j hj j1 j2 => n4 j (fun e => hrP (e ▸ hj)) j1 j2
  have hu := Rp.splitP_used (hi := kd.hi (halfN y.sz)) (lo := kd.lo (halfN y.sz)) (pn := nd.ins (atI nd.keys k) k0 v0 r) hr c1 c2 q1 q2
  have hts : TS (y.splitP r c q (kd.hi (halfN y.sz)) (kd.lo (halfN y.sz)) (nd.ins (atI nd.keys k) k0 v0 r)) D root L P' := ⟨w1.whole, w2.nodup_iff.2 (List.nodup_cons.2 ⟨hrP, h.ts.nd⟩), h.ts.srt, by rw [hu, w2.length_eq, h.ts.used]; rfl⟩
  obtain ⟨e, ke, A', M', B', P1', PM2, P2', d1, d2⟩ := w1.down h.ts.srt (w1.miss hk)
  have hke : ke.keys.length + 1 ≤ 2 * halfN y.sz - 1 := by
    have l1 : (kd.lo (halfN y.sz)).keys.length = halfN y.sz - 1 := by simp [Nd.lo]; omega
    have l2 : (kd.hi (halfN y.sz)).keys.length = halfN y.sz - 1 := by simp [Nd.hi]; omega
    have hen := d2.nd
    rcases ins_kid (kd := kd) hci d1 with e1 | e1
    · rw [e1, n2] at hen; cases hen; omega
    · rw [e1, n1] at hen; cases hen; omega
  have hsz := h.rch.chg.size
  have hsz1 := hc1.size
  have hF' : ∀ j, j < w.heap.size → F' j → F j := fun j hj e => (h.rch.new j e).resolve_right (by omega)
  refine ⟨P', PM', e, ke, A', M', B', P1', PM2, P2', ⟨hb, ⟨Chg.trans (Chg.trans h.rch.chg hc1 hF') hc fun j hj e => hF' j hj ((hG j e).resolve_right (by omega)), fun j hj => (hF2 j hj).elim (h.rch.new j) fun e => .inr (by omega)⟩, h.like.trans Rp.splitP_like, hts, w1⟩, d1, d2, hke, hu⟩
end
end Go.Proofs.YtpkkcicaeldodaaGreatDoor

/- A drawn region of a round, walked as one outside of it: one way, with what is held (program-free). -/
namespace Go.Proofs.YtpkkcicaeldodaaGreatDoor
open Go.RowKit

section
variable {P : Program} {n L : Nat} {ops : Array Oper} {Q : Exit → Act → World → Prop} {md : Region.Mode} {S : World → Prop}

theorem rowsIn_wide {n : Nat} {row : String} {args : Array Value} {w : World} {R : Value → World → Prop} (h : Rows P row args w R) : RowsIn Fence.wide n P row args w R :=
  fun c cs _ => let ⟨v, w', r, s⟩ := h c cs; ⟨v, w', r, stepsIn_wide.2 s⟩

theorem wpIn_of_wp {o : Oper} {a : Act} {w : World} {K : Act → World → Prop} (h : o.wp P a w K Q) : o.wpIn Fence.wide n P a w K Q := by
  unfold Oper.wp at h
  unfold Oper.wpIn
  refine ⟨fun f hf => trivial, ?_⟩
  rw [show (Fence.wide).round = none from rfl, Oper.semAt_none]
  generalize (execOp a.eval o).run P w = r at h ⊢
  cases r with
  | ok x w' =>
    cases x <;> simp only [Oper.upon, Oper.uponIn] at h ⊢
    all_goals first
      | exact h
      | exact ⟨fun hd => (by cases hd), callsIn_wide.2 h⟩
      | exact ⟨fun hd => (by cases hd), rowsIn_wide h⟩
      | exact h.elim
  | halt x w' => cases x <;> exact h

theorem wpOpIn_of_wpOp (hO : ∀ a w, Q .outgrown a w → False) {i : Nat} {a : Act} {w : World} {K : Act → World → Prop} (h : wpOp P ops Q i K a w) : wpOpIn Fence.wide n P ops Q i K a w := by
  unfold wpOp at h
  unfold wpOpIn
  cases ho : ops[i]? with
  | none => simpa [ho] using h
  | some o =>
    simp only [ho] at h ⊢
    split
    · rename_i hw
      simp only [hw, if_true] at h
      rcases h with h | ⟨_, a', w', h⟩
      · exact wpIn_of_wp h
      · exact (hO _ _ h).elim
    · rename_i hw
      simp only [hw] at h
      exact ⟨fun f hf => trivial, h⟩

theorem wpAnyIn_of_any (hO : ∀ a w, Q .outgrown a w → False) : ∀ (fuel : Nat) (listed : Array Bool) (a : Act) (w : World), wpAny P md ops Q fuel listed a w → wpAnyIn Fence.wide n P md ops Q fuel listed a w
  | 0, _, _, _, h => h
  | fuel + 1, _, _, _, h => ⟨h.1, fun i hi => wpOpIn_mono (fun a w => wpAnyIn_of_any hO fuel _ a w) (wpOpIn_of_wpOp hO (h.2 i hi))⟩

/-- A drawn region of a round that holds S. -/
theorem wpIn_region_held_round {id : Nat} {a : Act} {w : World} (hO : ∀ a w, Q .outgrown a w → False) (hm : P.follows .mixedOrders = true) (hnd : noDefer ops = true) (hS : S w.drew)
    (h : S w.drew → wpAnyH P .any ops Q S ops.size (Array.replicate ops.size false) a w.drew) : (Code.region id ops true).wpIn (Fence.wide.inRound L) n P Q a w :=
  wpIn_region_any hm (wpAnyIn_inRound hnd _ _ _ _ (wpAnyIn_of_any hO _ _ _ _ (wpAny_of_held _ _ _ _ (h hS))))
/-- .. and one of a fenced call. -/
theorem wpIn_region_held_wide {id : Nat} {a : Act} {w : World} (hO : ∀ a w, Q .outgrown a w → False) (hm : P.follows .mixedOrders = true) (hS : S w.drew)
    (h : S w.drew → wpAnyH P .any ops Q S ops.size (Array.replicate ops.size false) a w.drew) : (Code.region id ops true).wpIn Fence.wide n P Q a w :=
  wpIn_region_any hm (wpAnyIn_of_any hO _ _ _ _ (wpAny_of_held _ _ _ _ (h hS)))
end

end Go.Proofs.YtpkkcicaeldodaaGreatDoor

/- A drawn region inside the wide fence that holds S behind each of its operations (it may yield). No program stands in this text. -/
namespace Go.Proofs.YtpkkcicaeldodaaGreatDoor
open Go.RowKit

section
variable {P : Program} {n : Nat} {ops : Array Oper} {Q : Exit → Act → World → Prop} {md : Region.Mode} {S : World → Prop}

/-- Every order; S holds behind each operation. -/
def wpAnyInH (P : Program) (n : Nat) (md : Region.Mode) (ops : Array Oper) (Q : Exit → Act → World → Prop) (S : World → Prop) : Nat → Array Bool → Act → World → Prop
  | 0, listed, a, w => Region.ready md ops listed = [] ∧ Q .normal a w
  | fuel + 1, listed, a, w =>
    (Region.ready md ops listed = [] → Q .normal a w) ∧
    ∀ i ∈ Region.ready md ops listed, wpOpIn Fence.wide n P ops Q i (fun a' w' => S w' ∧ wpAnyInH P n md ops Q S fuel (listed.setIfInBounds i true) a' w') a w
theorem wpAnyInH_any : ∀ (fuel : Nat) (listed : Array Bool) (a : Act) (w : World), wpAnyInH P n md ops Q S fuel listed a w → wpAnyIn Fence.wide n P md ops Q fuel listed a w
  | 0, _, _, _, h => h
  | fuel + 1, _, _, _, h => ⟨h.1, fun i hi => wpOpIn_mono (fun a' w' h' => wpAnyInH_any fuel _ a' w' h'.2) (h.2 i hi)⟩
/-- It yields v where S holds, and is about to make no call. -/
def YIn (P : Program) (ops : Array Oper) (S : World → Prop) (o : Oper) (v : Value) (a : Act) : Prop := YieldsIf P ops S o v a ∧ ∀ w, o.about P w a.eval = none
theorem YIn.op {i : Nat} {o : Oper} {v : Value} {a : Act} (hi : ops[i]? = some o) (hy : YIn P ops S o v a) {K : Act → World → Prop} {w : World} (hS : S w) (h : K (a.put o.dst v) w) : wpOpIn Fence.wide n P ops Q i K a w := by
  unfold Go.wpOpIn
  simp only [hi]
  have hab : ∀ f, o.about P w a.eval = some f → Fence.wide.fn f := fun f hf => by rw [hy.2 w] at hf; cases hf
  rcases hy.1 with ⟨hw, hv⟩ | ⟨hw, rfl⟩
  · simp only [hw, if_true, Oper.wpIn, show (Fence.wide).round = none from rfl, Oper.semAt_none, hv w hS, Oper.uponIn]; exact ⟨hab, h⟩
  · simp only [hw, Bool.false_eq_true, if_false]; exact ⟨hab, h⟩
theorem YIn.same {o : Oper} {v : Value} {a a' : Act} (hy : YIn P ops S o v a) (he : execOp a'.eval o = execOp a.eval o) (hw : Region.wanted o (yielded ops a'.tmps) = Region.wanted o (yielded ops a.tmps)) (hb : ∀ w, o.about P w a'.eval = o.about P w a.eval) : YIn P ops S o v a' :=
  ⟨hy.1.of_same he hw, fun w => by rw [hb w]; exact hy.2 w⟩
theorem wpOpIn_putH {j : Nat} {oi oj : Oper} {v : Value} (hj : ops[j]? = some oj) (hap : oi.apart ops oj = true) (hsi : ∀ cs b, oi.op ≠ .select cs b) (hsj : ∀ cs b, oj.op ≠ .select cs b)
    (hQ : ∀ c a w, Q (.panic c) (a.put oi.dst v) w → Q (.panic c) a w) {K : Act → World → Prop} {a : Act} {w : World} (hy : YIn P ops S oi v a) (h : wpOpIn Fence.wide n P ops Q j K (a.put oi.dst v) w) :
    wpOpIn Fence.wide n P ops Q j (fun a' w' => YIn P ops S oi v a' ∧ K (a'.put oi.dst v) w') a w := by
  have hro : (Fence.wide).round = none := rfl
  obtain ⟨h1, h2, h3⟩ := Oper.apart_spec hap
  have keep : ∀ (a : Act), YIn P ops S oi v a → ∀ u, YIn P ops S oi v (a.put oj.dst u) := fun a hy u => hy.same (execOp_put oi hsi a oj.dst u h3) (wanted_put oi a oj.dst u h3) (fun w => about_put oi w a oj.dst u h3)
  have keepD : ∀ d, YIn P ops S oi v { a with defers := d :: a.defers } := fun d => hy.same rfl rfl (fun _ => rfl)
  unfold wpOpIn at *
  simp only [hj] at *
  rw [wanted_put oj a oi.dst v h1, about_put oj w a oi.dst v h1] at h
  split
  · rename_i hw
    simp only [hw, if_true] at h
    unfold Oper.wpIn at *
    rw [about_put oj w a oi.dst v h1] at h
    refine ⟨h.1, ?_⟩
    have h := h.2
    rw [hro, Oper.semAt_none, execOp_put oj hsj a oi.dst v h1] at h
    rw [hro, Oper.semAt_none]
    generalize (execOp a.eval oj).run P w = r at *
    cases r with
    | ok x w' =>
      cases x <;> simp only [Oper.uponIn] at h ⊢
      case value u => exact ⟨keep a hy u, by rw [← Act.put_comm a v u h2]; exact h⟩
      case skip => exact ⟨keep a hy _, by rw [← Act.put_comm a v undef h2]; exact h⟩
      case defer d =>
        refine ⟨keep _ (keepD d) _, ?_⟩
        rw [← Act.put_comm _ v undef h2, ← Act.put_defers]
        exact h
      case enter f args =>
        refine ⟨h.1, CallsIn.mono h.2 fun e w'' he => ?_⟩
        cases e with
        | returned u => exact ⟨keep a hy u, by rw [← Act.put_comm a v u h2]; exact he⟩
        | panicked c => exact hQ _ _ _ he
        | outgrown => exact he
      case row row args => exact ⟨h.1, RowsIn.mono h.2 fun u w'' he => ⟨keep a hy u, by rw [← Act.put_comm a v u h2]; exact he⟩⟩
      case round l f tmps assign body =>
        refine ⟨h.1, RoundIn.mono h.2 fun e w'' he => ?_⟩
        cases e with
        | returned u => exact ⟨keep a hy u, by rw [← Act.put_comm a v u h2]; exact he⟩
        | panicked c => exact hQ _ _ _ he
        | outgrown => exact he
    | halt x w' =>
      cases x <;> simp only [Oper.uponIn] at h ⊢
      case panic u => exact hQ _ _ _ h
  · rename_i hw
    simp only [hw] at h
    exact ⟨h.1, keep a hy _, by rw [← Act.put_comm a v undef h2]; exact h.2⟩
theorem wpAnyInH_first {i : Nat} {oi : Oper} {v : Value} (hi : ops[i]? = some oi) (hsel : ∀ (j : Nat) (o : Oper) cs b, ops[j]? = some o → o.op ≠ .select cs b)
    (hQ : ∀ c a w, Q (.panic c) (a.put oi.dst v) w → Q (.panic c) a w) (fuel : Nat) : ∀ (listed : Array Bool) (a : Act) (w : World),
      (∀ j oj, ops[j]? = some oj → j ≠ i → listed.getD j true = false → (∀ e ∈ oj.after, Region.binds md e = true → e.on ≠ i) → oi.apart ops oj = true) →
      i ∈ Region.ready md ops listed → YIn P ops S oi v a → S w →
      wpAnyInH P n md ops Q S fuel (listed.setIfInBounds i true) (a.put oi.dst v) w → wpAnyInH P n md ops Q S (fuel + 1) listed a w := by
  induction fuel with
  | zero =>
    intro listed a w _ hr hy hS H
    refine ⟨fun h => absurd hr (by rw [h]; simp), fun j hj => ?_⟩
    rcases Nat.decEq j i with hji | hji
    · have := ready_mono hj hji
      rw [H.1] at this
      cases this
    · subst hji
      exact hy.op hi hS ⟨hS, H⟩
  | succ fuel ih =>
    intro listed a w hfree hr hy hS H
    refine ⟨fun h => absurd hr (by rw [h]; simp), fun j hj => ?_⟩
    rcases Nat.decEq j i with hji | hji
    · obtain ⟨hun, oj, hoj, hall⟩ := mem_ready.1 hj
      have hiun := (mem_ready.1 hr).1
      have hnot : ∀ e ∈ oj.after, Region.binds md e = true → e.on ≠ i := by
        intro e he hb heq
        have hl := hall e he hb
        rw [heq] at hl
        by_cases hsz : i < listed.size
        · simp [hsz] at hiun hl; rw [hiun] at hl; cases hl
        · simp [Array.getElem?_eq_none (Nat.le_of_not_lt hsz)] at hl
      have step := wpOpIn_putH hoj (hfree j oj hoj hji hun hnot) (fun cs b => hsel i oi cs b hi) (fun cs b => hsel j oj cs b hoj) hQ hy (H.2 j (ready_mono hj hji))
      refine wpOpIn_mono (fun a' w' h3 => ?_) step
      refine ⟨h3.2.1, ih (listed.setIfInBounds j true) a' w' (fun k ok hk hki hkun hno => hfree k ok hk hki ?_ hno) (ready_mono hr (Ne.symm hji)) h3.1 h3.2.1 (by rw [Array.setIfInBounds_comm _ _ hji]; exact h3.2.2)⟩
      rcases Nat.decEq j k with hjk | hjk
      · rwa [getD_set_ne true hjk] at hkun
      · exact hjk ▸ hun
    · subst hji
      exact hy.op hi hS ⟨hS, H⟩
theorem wpAnyInH_take {i : Nat} {oi : Oper} {v : Value} {fuel : Nat} {listed : Array Bool} {a : Act} {w : World} (hi : ops[i]? = some oi)
    (hs : Region.noSelect ops = true) (hf : Region.free md ops listed i = true) (hr : (Region.ready md ops listed).contains i = true)
    (hQ : ∀ c a w, Q (.panic c) (a.put oi.dst v) w → Q (.panic c) a w) (hy : YIn P ops S oi v a) (hS : S w)
    (h : wpAnyInH P n md ops Q S fuel (listed.setIfInBounds i true) (a.put oi.dst v) w) : wpAnyInH P n md ops Q S (fuel + 1) listed a w :=
  wpAnyInH_first hi (Region.noSelect_spec hs) hQ fuel listed a w (Region.free_spec hi hf) (by simpa using hr) hy hS h
def AllReadyInH (P : Program) (n : Nat) (md : Region.Mode) (ops : Array Oper) (Q : Exit → Act → World → Prop) (S : World → Prop) (fuel : Nat) (listed : Array Bool) (a : Act) (w : World) (rs : List Nat) : Prop :=
  ∀ i ∈ rs, wpOpIn Fence.wide n P ops Q i (fun a' w' => S w' ∧ wpAnyInH P n md ops Q S fuel (listed.setIfInBounds i true) a' w') a w
theorem AllReadyInH.nil {fuel : Nat} {listed : Array Bool} {a : Act} {w : World} : AllReadyInH P n md ops Q S fuel listed a w [] := fun _ h => absurd h (by simp)
theorem AllReadyInH.cons {fuel : Nat} {listed : Array Bool} {a : Act} {w : World} {i : Nat} {o : Oper} {rs : List Nat} (ho : ops[i]? = some o)
    (h : ∀ K' : Act → World → Prop, (∀ a w, S w → wpAnyInH P n md ops Q S fuel (listed.setIfInBounds i true) a w → K' a w) → if Region.wanted o (yielded ops a.tmps) = true then Oper.wpIn Fence.wide n P o a w K' Q else (∀ f, o.about P w a.eval = some f → (Fence.wide).fn f) ∧ K' (a.put o.dst undef) w)
    (hs : AllReadyInH P n md ops Q S fuel listed a w rs) : AllReadyInH P n md ops Q S fuel listed a w (i :: rs) := fun j hj => by
  rcases List.mem_cons.1 hj with rfl | hj
  · exact wpOpIn_step ho (fun K' hK => h K' (fun a w hS hW => hK a w ⟨hS, hW⟩))
  · exact hs j hj
theorem wpAnyInH_ready {rs : List Nat} {fuel : Nat} {listed : Array Bool} {a : Act} {w : World} (hr : Region.ready md ops listed = rs) (hne : rs ≠ [])
    (h : AllReadyInH P n md ops Q S fuel listed a w rs) : wpAnyInH P n md ops Q S (fuel + 1) listed a w := ⟨fun h0 => absurd (hr ▸ h0) hne, hr ▸ h⟩
theorem wpAnyInH_done {listed : Array Bool} {a : Act} {w : World} (hr : Region.ready md ops listed = []) (h : Q .normal a w) : ∀ fuel, wpAnyInH P n md ops Q S fuel listed a w
  | 0 => ⟨hr, h⟩
  | _ + 1 => ⟨fun _ => h, by rw [hr]; simp⟩
/-- The beginning. -/
theorem wpIn_region_inH {id : Nat} {a : Act} {w : World} (hm : P.follows .mixedOrders = true) (hS : S w.drew)
    (h : S w.drew → wpAnyInH P n .any ops Q S ops.size (Array.replicate ops.size false) a w.drew) : (Code.region id ops true).wpIn Fence.wide n P Q a w :=
  wpIn_region_any hm (wpAnyInH_any _ _ _ _ (h hS))
end
end Go.Proofs.YtpkkcicaeldodaaGreatDoor
