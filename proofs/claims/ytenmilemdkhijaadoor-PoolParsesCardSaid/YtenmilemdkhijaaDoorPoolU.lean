/- The pool and its list tell the same. -/
import Derived.Test.YtenmilemdkhijaaDoorPoolW
import Derived.Deep.RegionWith
import Derived.Laws.BytesArg
namespace Go.Proofs.YtenmilemdkhijaaDoor
open Go.RowKit

/-- How many lie below a number. -/
def cb (x : List Bool) (k : Nat) : Nat := cntN (fun m => x.getD m false) k
/-- The bytes as numbers. -/
def bnum (x : List Bool) (m : Nat) : List Int := (List.range m).map fun k => (bt x k : Int)
theorem bnum_len (x : List Bool) (m : Nat) : (bnum x m).length = m := by simp [bnum]
theorem bts_num (x : List Bool) (m k : Nat) (hk : k < m) : (bts x m)[k]? = some (.int .u8 ((bnum x m).getD k 0)) := by
  simp [bts, bnum, hk]
/-- string(b) of a list's bytes. -/
theorem conv_any {w : World} {base : Nat} {x : List Bool} {A : Option Addr} {m c : Nat} (h : w.ownsRow base 5 1 (.slice A m c) m (bts x m)) :
    (convert 52 9 (.slice A m c)).run Tryd.prog w = .ok (.string (strOfNums (bnum x m))) w := by
  rcases A with _ | a
  · have h0 : m = 0 := by
      rcases h.2 with ⟨e, hm⟩ | ⟨g', cap, cur, e, _⟩
      · simpa using hm
      · cases e
    subst h0
    exact run_convert_bytes_nil w 52 5 Tryd.underlying52 (by kernel_rfl) 0 c 9 (by kernel_rfl)
  · obtain ⟨g, e⟩ : ∃ g, a = ⟨g, 0, none⟩ := by
      rcases h.2 with ⟨e, hm⟩ | ⟨g', cap, cur, e, _⟩
      · cases e
      · injection e with e1; injection e1 with e2; exact ⟨g', e2⟩
    subst e
    refine run_convert_bytes_arg w 52 5 Tryd.underlying52 (by kernel_rfl) g 0 m c (bnum x m) (bnum_len x m) (fun i hi => ?_) 9 (by kernel_rfl)
    have := World.ownsRow.cells (g := g) h rfl i _ (bts_num x m i hi)
    rw [Addr.add_lit] at this
    simpa using this

set_option maxRecDepth 100000 in
set_option maxHeartbeats 6400000 in
theorem psame_any (b : Nat) (x : List Bool) (A Ax : Option Addr) (c cx : Nat) (w : World) (h : PIn w b x A c) (hs : Sl w 1 Ax x.length (x.map Value.bool)) (hT : TabAt 0 tab w) (hl : x.length ≤ 65536) :
    Calls Tryd.prog 19 #[.pointer (some ⟨b, 0, none⟩), .slice Ax x.length cx] w fun e w' => e = .returned (.bool true) ∧ Grew w w' := by
  have H := Lib.hid (And.intro h (And.intro hs hT))
  clear h hs hT
  go_enter Tryd.func19, Tryd.ntmps19
  go_wp2
  go_loop [5, 10] (fun v i => ∃ k : Nat, k ≤ x.length ∧ i = .int .i64 k ∧ v = .int .i64 (cb x k)) (fun _ i => x.length - (intOf i).toNat)
  case atStart => exact ⟨0, by omega, rfl, rfl⟩
  case round =>
    obtain ⟨k, hk, rfl, rfl⟩ := hrel
    have hcn : cb x k ≤ k := cntN_le _ k
    have hcs : cb x (k + 1) = cb x k + if x.getD k false = true then 1 else 0 := cntN_succ (fun m => x.getD m false) k
    have HC := Lib.hid hcs
    clear hcs
    by_cases hlt : k < x.length
    · obtain ⟨g, off, rfl, hb, d0⟩ := H.out.2.1.atBool hlt
      cases hx : x.getD k false with
      | false =>
        have HX := Lib.hid hx
        rw [hx] at d0
        clear hx
        go_wp2_with (go_at_call 26; have h4 := phas_yes b k x A c _ H.out.1 hlt hl; rw [HX.out] at h4; refine h4.mono ?_; rintro e w1 ⟨rfl, rfl⟩)
        have hc2 : cb x (k + 1) = cb x k := by
          rw [HC.out]
          rw [HX.out]
          rfl
        exact ⟨⟨k + 1, by omega, by simp, by rw [hc2]⟩, by simp [intOf]; omega⟩
      | true =>
        have HX := Lib.hid hx
        rw [hx] at d0
        clear hx
        go_wp2_with (go_at_call 26; have h4 := phas_yes b k x A c _ H.out.1 hlt hl; rw [HX.out] at h4; refine h4.mono ?_; rintro e w1 ⟨rfl, rfl⟩)
        have hc2 : cb x (k + 1) = cb x k + 1 := by
          rw [HC.out]
          rw [HX.out]
          rfl
        exact ⟨⟨k + 1, by omega, by simp, by rw [hc2]; refine congrArg (Value.int .i64) ?_; omega⟩, by simp [intOf]; omega⟩
    · obtain rfl : k = x.length := by omega
      rw [show cb x x.length = cnt x from rfl]
      go_wp2_with fail
      go_region_with (first
        | (go_at_call 25; refine (plen_any b x A c _ (H.out.1.grew ((Chg.refl _ _).drew))).mono ?_; rintro e w1 ⟨rfl, rfl⟩)
        | (go_at_call 12; refine (pfree_any b x A c _ (H.out.1.grew ((Chg.refl _ _).drew)) hl).mono ?_; rintro e w1 ⟨rfl, rfl⟩)
        | (go_at_call 26; refine (phas_no b _ x A c _ (H.out.1.grew ((Chg.refl _ _).drew)) (by omega)).mono ?_; rintro e w1 ⟨rfl, rfl⟩)
        | (go_at_call 22; refine (pbytes_any b x A c _ (H.out.1.grew ((Chg.refl _ _).drew)) (tab_chg H.out.2.2 ((Chg.refl NoF _).drew) id) hl).mono ?_; rintro e w8 ⟨B, cb, rfl, hB, hg8⟩; have hcv := conv_any hB; have HB8 := Lib.hid (And.intro hB (Grew.trans ((Chg.refl NoF w).drew) hg8)); clear hB hg8)
        | (go_at_call 33; refine (xbytes_any x Ax cx _ (H.out.2.1.grew HB8.out.2) hl).mono ?_; rintro e w9 ⟨C, cc, rfl, hC, hg9⟩; have hcv2 := conv_any hC; have hcv3 := conv_any (own_grew HB8.out.1 hg9); have HG9 := Lib.hid (Grew.trans HB8.out.2 hg9); clear hC hg9))
      all_goals
        go_wp2_with fail
        go_ret
        exact ⟨rfl, HG9.out⟩

end Go.Proofs.YtenmilemdkhijaaDoor
