/-
  NARROWER THAN 'FOR EVERY INPUT', by the rows' own cells (each row's printed sentence says how): BtreeOrders: laid · BtreeEach: laid · BtreePlays: laid · BtreeSmall: laid · BtreeFull: laid · BtreeCommits: laid.
  DERIVED. THE GIVEN ROWS OF THIS SEAT. 6 by the template 'for every input the law returns true; each argument reads behind the call as it read before'; 0 by the template 'total and deterministic' (their statements: YtpkkcicaeldodaaGreatDoorTotals.lean).
  GIVEN WITH THE SEED: the statements are not yours to turn. If you find one false, say at which input.
  Laid BY PROGRAM, IN A SANDBOX (cutbox-rows.mjs): the forced cells as the released guide's own fill.sh prints them over the translation 9a778ea87d7f741e… (all of the seat's roots in one cut). By AI agents, Wed Nov 11 2026. No macro, syntax, notation, axiom, sorry.
-/
import Derived.Test.YtpkkcicaeldodaaGreatDoorChecked
import GoSem.Claim
import GoSem.ClaimJoined
import GoSem.ClaimMapViews
import Derived.JoinedTies
import Derived.KernelRfl
namespace Go.Proofs.YtpkkcicaeldodaaGreatDoor
/- THE CELL 'sum', in the pinned program and in every row, IS THE sha256 OF THE DUMP (.gsa) THAT YtpkkcicaeldodaaGreatDoorProg.lean LOADS. Nothing in Lean hashes anything: it is a label: what it is worth is what the hold of that sum in a sandbox is worth. -/
noncomputable def Tryz.pinned : Pinned := { name := "ytpkkcicaeldodaagreatdoor", sum := "9a778ea87d7f741e6b0ec15977c95fac67ff22e8a627e66335736262b13ca16f", checked := Tryz.checked }
namespace Rows
def none {H : Type} : Left H := { results := [], args := [] }

/- WHAT THE LISTED PACKAGE-LEVEL VARIABLES READ AS WHEN THE CALL BEGINS. Each datum BY PROGRAM (the guide's laid-datum.mjs) off the statement by which the dump's own 'gosem.cut.vars' lays the variable. In a bare row this is a premise. The card (YtpkkcicaeldodaaGreatDoorCards.lean) ties it to the program's text. -/
def laid_math_bits_deBruijn64tab {H : Type} : DataW H := .agg [.lit (.int .u8 0), .lit (.int .u8 1), .lit (.int .u8 56), .lit (.int .u8 2), .lit (.int .u8 57), .lit (.int .u8 49), .lit (.int .u8 28), .lit (.int .u8 3), .lit (.int .u8 61), .lit (.int .u8 58), .lit (.int .u8 42), .lit (.int .u8 50), .lit (.int .u8 38), .lit (.int .u8 29), .lit (.int .u8 17), .lit (.int .u8 4), .lit (.int .u8 62), .lit (.int .u8 47), .lit (.int .u8 59), .lit (.int .u8 36), .lit (.int .u8 45), .lit (.int .u8 43), .lit (.int .u8 51), .lit (.int .u8 22), .lit (.int .u8 53), .lit (.int .u8 39), .lit (.int .u8 33), .lit (.int .u8 30), .lit (.int .u8 24), .lit (.int .u8 18), .lit (.int .u8 12), .lit (.int .u8 5), .lit (.int .u8 63), .lit (.int .u8 55), .lit (.int .u8 48), .lit (.int .u8 27), .lit (.int .u8 60), .lit (.int .u8 41), .lit (.int .u8 37), .lit (.int .u8 16), .lit (.int .u8 46), .lit (.int .u8 35), .lit (.int .u8 44), .lit (.int .u8 21), .lit (.int .u8 52), .lit (.int .u8 32), .lit (.int .u8 23), .lit (.int .u8 11), .lit (.int .u8 54), .lit (.int .u8 26), .lit (.int .u8 40), .lit (.int .u8 15), .lit (.int .u8 34), .lit (.int .u8 20), .lit (.int .u8 31), .lit (.int .u8 10), .lit (.int .u8 25), .lit (.int .u8 14), .lit (.int .u8 19), .lit (.int .u8 9), .lit (.int .u8 13), .lit (.int .u8 8), .lit (.int .u8 7), .lit (.int .u8 6)]

/-- 'deedholdlaw10.BtreeOrders': WHATEVER THE INPUT: true; the input reads as it did. -/
def btreeOrdersSpec : ChangeSpec := { name := "btreeOrders", fn := fun _ => fun
  | [d1, d2] => { results := [.lit (.bool true)], args := [d1, d2] }
  | _ => none }
def btreeOrdersRow : OpenClaim := { program := "ytpkkcicaeldodaagreatdoor", sum := "9a778ea87d7f741e6b0ec15977c95fac67ff22e8a627e66335736262b13ca16f", func := "deedhold/deedholdlaw10.BtreeOrders", spec := "btreeOrders", inPlace := ["slices.overlaps[int]"], unfollowed := true, recurses := true, named := ["math/bits.deBruijn64tab"], apart := false, laid := [("math/bits.deBruijn64tab", laid_math_bits_deBruijn64tab)] }
def BtreeOrdersSaid : Prop := btreeOrdersRow.holds Tryz.pinned (OpenSpec.ofChange btreeOrdersSpec)

/-- ITS FALSE NEIGHBOUR: 'it returns false'. Refute it at one input. -/
def btreeOrdersWrong : ChangeSpec := { name := "btreeOrders", fn := fun _ => fun
  | [d1, d2] => { results := [.lit (.bool false)], args := [d1, d2] }
  | _ => none }
def BtreeOrdersWrongFalsely : Prop := btreeOrdersRow.holds Tryz.pinned (OpenSpec.ofChange btreeOrdersWrong)

/-- 'deedholdlaw10.BtreeEach': WHATEVER THE INPUT: true; the input reads as it did. -/
def btreeEachSpec : ChangeSpec := { name := "btreeEach", fn := fun _ => fun
  | [d1, d2, d3] => { results := [.lit (.bool true)], args := [d1, d2, d3] }
  | _ => none }
def btreeEachRow : OpenClaim := { program := "ytpkkcicaeldodaagreatdoor", sum := "9a778ea87d7f741e6b0ec15977c95fac67ff22e8a627e66335736262b13ca16f", func := "deedhold/deedholdlaw10.BtreeEach", spec := "btreeEach", inPlace := ["slices.overlaps[int]"], unfollowed := true, recurses := true, named := ["math/bits.deBruijn64tab"], apart := false, laid := [("math/bits.deBruijn64tab", laid_math_bits_deBruijn64tab)] }
def BtreeEachSaid : Prop := btreeEachRow.holds Tryz.pinned (OpenSpec.ofChange btreeEachSpec)

/-- ITS FALSE NEIGHBOUR: 'it returns false'. Refute it at one input. -/
def btreeEachWrong : ChangeSpec := { name := "btreeEach", fn := fun _ => fun
  | [d1, d2, d3] => { results := [.lit (.bool false)], args := [d1, d2, d3] }
  | _ => none }
def BtreeEachWrongFalsely : Prop := btreeEachRow.holds Tryz.pinned (OpenSpec.ofChange btreeEachWrong)

/-- 'deedholdlaw10.BtreePlays': WHATEVER THE INPUT: true; the input reads as it did. -/
def btreePlaysSpec : ChangeSpec := { name := "btreePlays", fn := fun _ => fun
  | [d1, d2] => { results := [.lit (.bool true)], args := [d1, d2] }
  | _ => none }
def btreePlaysRow : OpenClaim := { program := "ytpkkcicaeldodaagreatdoor", sum := "9a778ea87d7f741e6b0ec15977c95fac67ff22e8a627e66335736262b13ca16f", func := "deedhold/deedholdlaw10.BtreePlays", spec := "btreePlays", inPlace := ["slices.overlaps[int]"], unfollowed := true, recurses := true, named := ["math/bits.deBruijn64tab"], apart := false, laid := [("math/bits.deBruijn64tab", laid_math_bits_deBruijn64tab)] }
def BtreePlaysSaid : Prop := btreePlaysRow.holds Tryz.pinned (OpenSpec.ofChange btreePlaysSpec)

/-- ITS FALSE NEIGHBOUR: 'it returns false'. Refute it at one input. -/
def btreePlaysWrong : ChangeSpec := { name := "btreePlays", fn := fun _ => fun
  | [d1, d2] => { results := [.lit (.bool false)], args := [d1, d2] }
  | _ => none }
def BtreePlaysWrongFalsely : Prop := btreePlaysRow.holds Tryz.pinned (OpenSpec.ofChange btreePlaysWrong)

/-- 'deedholdlaw10.BtreeSmall': WHATEVER THE INPUT: true; the input reads as it did. -/
def btreeSmallSpec : ChangeSpec := { name := "btreeSmall", fn := fun _ => fun
  | [d1, d2] => { results := [.lit (.bool true)], args := [d1, d2] }
  | _ => none }
def btreeSmallRow : OpenClaim := { program := "ytpkkcicaeldodaagreatdoor", sum := "9a778ea87d7f741e6b0ec15977c95fac67ff22e8a627e66335736262b13ca16f", func := "deedhold/deedholdlaw10.BtreeSmall", spec := "btreeSmall", inPlace := ["slices.overlaps[int]"], unfollowed := true, recurses := true, named := ["math/bits.deBruijn64tab"], apart := false, laid := [("math/bits.deBruijn64tab", laid_math_bits_deBruijn64tab)] }
def BtreeSmallSaid : Prop := btreeSmallRow.holds Tryz.pinned (OpenSpec.ofChange btreeSmallSpec)

/-- ITS FALSE NEIGHBOUR: 'it returns false'. Refute it at one input. -/
def btreeSmallWrong : ChangeSpec := { name := "btreeSmall", fn := fun _ => fun
  | [d1, d2] => { results := [.lit (.bool false)], args := [d1, d2] }
  | _ => none }
def BtreeSmallWrongFalsely : Prop := btreeSmallRow.holds Tryz.pinned (OpenSpec.ofChange btreeSmallWrong)

/-- 'deedholdlaw10.BtreeFull': WHATEVER THE INPUT: true; the input reads as it did. -/
def btreeFullSpec : ChangeSpec := { name := "btreeFull", fn := fun _ => fun
  | [d1, d2] => { results := [.lit (.bool true)], args := [d1, d2] }
  | _ => none }
def btreeFullRow : OpenClaim := { program := "ytpkkcicaeldodaagreatdoor", sum := "9a778ea87d7f741e6b0ec15977c95fac67ff22e8a627e66335736262b13ca16f", func := "deedhold/deedholdlaw10.BtreeFull", spec := "btreeFull", inPlace := ["slices.overlaps[int]"], unfollowed := true, recurses := true, named := ["math/bits.deBruijn64tab"], apart := false, laid := [("math/bits.deBruijn64tab", laid_math_bits_deBruijn64tab)] }
def BtreeFullSaid : Prop := btreeFullRow.holds Tryz.pinned (OpenSpec.ofChange btreeFullSpec)

/-- ITS FALSE NEIGHBOUR: 'it returns false'. Refute it at one input. -/
def btreeFullWrong : ChangeSpec := { name := "btreeFull", fn := fun _ => fun
  | [d1, d2] => { results := [.lit (.bool false)], args := [d1, d2] }
  | _ => none }
def BtreeFullWrongFalsely : Prop := btreeFullRow.holds Tryz.pinned (OpenSpec.ofChange btreeFullWrong)

/-- 'deedholdlaw10.BtreeCommits': WHATEVER THE INPUT: true; the input reads as it did. -/
def btreeCommitsSpec : ChangeSpec := { name := "btreeCommits", fn := fun _ => fun
  | [d1, d2, d3] => { results := [.lit (.bool true)], args := [d1, d2, d3] }
  | _ => none }
def btreeCommitsRow : OpenClaim := { program := "ytpkkcicaeldodaagreatdoor", sum := "9a778ea87d7f741e6b0ec15977c95fac67ff22e8a627e66335736262b13ca16f", func := "deedhold/deedholdlaw10.BtreeCommits", spec := "btreeCommits", inPlace := ["slices.overlaps[int]"], unfollowed := true, recurses := true, named := ["math/bits.deBruijn64tab"], apart := false, laid := [("math/bits.deBruijn64tab", laid_math_bits_deBruijn64tab)] }
def BtreeCommitsSaid : Prop := btreeCommitsRow.holds Tryz.pinned (OpenSpec.ofChange btreeCommitsSpec)

/-- ITS FALSE NEIGHBOUR: 'it returns false'. Refute it at one input. -/
def btreeCommitsWrong : ChangeSpec := { name := "btreeCommits", fn := fun _ => fun
  | [d1, d2, d3] => { results := [.lit (.bool false)], args := [d1, d2, d3] }
  | _ => none }
def BtreeCommitsWrongFalsely : Prop := btreeCommitsRow.holds Tryz.pinned (OpenSpec.ofChange btreeCommitsWrong)

/- THE SECOND FORM. 'bulk': how many values and letters a reading holds, each counted each time it is reached (what is shared counts as often as it is met; a slice's spare places count too). A statement '..UptoSaid' is the law's where the arguments, and the package variables that the reading takes, are together of bulk at most 1048576: NARROWER than '..Said'. Prove '..Said' where nothing that the law and all that it calls make is longer than what came in: it says more and counts as full. Else prove '..UptoSaid'. A law counts once. -/
mutual
def uptoBulk {H : Type} : DataW H → Nat
  | .lit (.string bytes) => bytes.length + 1
  | .lit _ => 1
  | .nil => 1
  | .ptr d => uptoBulk d + 1
  | .slice elems spare => uptoBulkAll elems + uptoBulkAll spare + 1
  | .agg parts => uptoBulkAll parts + 1
  | .iface _ d => uptoBulk d + 1
  | .map entries => uptoBulkEntries entries + 1
  | .held _ => 1
def uptoBulkAll {H : Type} : List (DataW H) → Nat
  | [] => 0
  | d :: r => uptoBulk d + uptoBulkAll r
def uptoBulkEntries {H : Type} : List (Lit × DataW H) → Nat
  | [] => 0
  | x :: r => uptoBulkEntry x + uptoBulkEntries r
def uptoBulkEntry {H : Type} : Lit × DataW H → Nat
  | (.string bytes, d) => bytes.length + uptoBulk d + 1
  | (_, d) => uptoBulk d + 1
 end
def uptoSmall : (H : Type) → List (DataW H) → Bool := fun _ ds => decide (uptoBulkAll ds ≤ 1048576)
def OpenSpec.upto (s : _root_.Go.ChangeSpec) : _root_.Go.OpenSpec := { _root_.Go.OpenSpec.ofChange s with cond := some uptoSmall }

/-- 'deedholdlaw10.BtreeOrders', WHERE WHAT IT READS IS OF BULK AT MOST 1048576: true; the input reads as it did. -/
def btreeOrdersUptoRow : OpenClaim := { program := "ytpkkcicaeldodaagreatdoor", sum := "9a778ea87d7f741e6b0ec15977c95fac67ff22e8a627e66335736262b13ca16f", func := "deedhold/deedholdlaw10.BtreeOrders", spec := "btreeOrders", inPlace := ["slices.overlaps[int]"], unfollowed := true, recurses := true, named := ["math/bits.deBruijn64tab"], apart := false, laid := [("math/bits.deBruijn64tab", laid_math_bits_deBruijn64tab)], narrowed := true }
def BtreeOrdersUptoSaid : Prop := btreeOrdersUptoRow.holds Tryz.pinned (OpenSpec.upto btreeOrdersSpec)

/-- 'deedholdlaw10.BtreeEach', WHERE WHAT IT READS IS OF BULK AT MOST 1048576: true; the input reads as it did. -/
def btreeEachUptoRow : OpenClaim := { program := "ytpkkcicaeldodaagreatdoor", sum := "9a778ea87d7f741e6b0ec15977c95fac67ff22e8a627e66335736262b13ca16f", func := "deedhold/deedholdlaw10.BtreeEach", spec := "btreeEach", inPlace := ["slices.overlaps[int]"], unfollowed := true, recurses := true, named := ["math/bits.deBruijn64tab"], apart := false, laid := [("math/bits.deBruijn64tab", laid_math_bits_deBruijn64tab)], narrowed := true }
def BtreeEachUptoSaid : Prop := btreeEachUptoRow.holds Tryz.pinned (OpenSpec.upto btreeEachSpec)

/-- 'deedholdlaw10.BtreePlays', WHERE WHAT IT READS IS OF BULK AT MOST 1048576: true; the input reads as it did. -/
def btreePlaysUptoRow : OpenClaim := { program := "ytpkkcicaeldodaagreatdoor", sum := "9a778ea87d7f741e6b0ec15977c95fac67ff22e8a627e66335736262b13ca16f", func := "deedhold/deedholdlaw10.BtreePlays", spec := "btreePlays", inPlace := ["slices.overlaps[int]"], unfollowed := true, recurses := true, named := ["math/bits.deBruijn64tab"], apart := false, laid := [("math/bits.deBruijn64tab", laid_math_bits_deBruijn64tab)], narrowed := true }
def BtreePlaysUptoSaid : Prop := btreePlaysUptoRow.holds Tryz.pinned (OpenSpec.upto btreePlaysSpec)

/-- 'deedholdlaw10.BtreeSmall', WHERE WHAT IT READS IS OF BULK AT MOST 1048576: true; the input reads as it did. -/
def btreeSmallUptoRow : OpenClaim := { program := "ytpkkcicaeldodaagreatdoor", sum := "9a778ea87d7f741e6b0ec15977c95fac67ff22e8a627e66335736262b13ca16f", func := "deedhold/deedholdlaw10.BtreeSmall", spec := "btreeSmall", inPlace := ["slices.overlaps[int]"], unfollowed := true, recurses := true, named := ["math/bits.deBruijn64tab"], apart := false, laid := [("math/bits.deBruijn64tab", laid_math_bits_deBruijn64tab)], narrowed := true }
def BtreeSmallUptoSaid : Prop := btreeSmallUptoRow.holds Tryz.pinned (OpenSpec.upto btreeSmallSpec)

/-- 'deedholdlaw10.BtreeFull', WHERE WHAT IT READS IS OF BULK AT MOST 1048576: true; the input reads as it did. -/
def btreeFullUptoRow : OpenClaim := { program := "ytpkkcicaeldodaagreatdoor", sum := "9a778ea87d7f741e6b0ec15977c95fac67ff22e8a627e66335736262b13ca16f", func := "deedhold/deedholdlaw10.BtreeFull", spec := "btreeFull", inPlace := ["slices.overlaps[int]"], unfollowed := true, recurses := true, named := ["math/bits.deBruijn64tab"], apart := false, laid := [("math/bits.deBruijn64tab", laid_math_bits_deBruijn64tab)], narrowed := true }
def BtreeFullUptoSaid : Prop := btreeFullUptoRow.holds Tryz.pinned (OpenSpec.upto btreeFullSpec)

/-- 'deedholdlaw10.BtreeCommits', WHERE WHAT IT READS IS OF BULK AT MOST 1048576: true; the input reads as it did. -/
def btreeCommitsUptoRow : OpenClaim := { program := "ytpkkcicaeldodaagreatdoor", sum := "9a778ea87d7f741e6b0ec15977c95fac67ff22e8a627e66335736262b13ca16f", func := "deedhold/deedholdlaw10.BtreeCommits", spec := "btreeCommits", inPlace := ["slices.overlaps[int]"], unfollowed := true, recurses := true, named := ["math/bits.deBruijn64tab"], apart := false, laid := [("math/bits.deBruijn64tab", laid_math_bits_deBruijn64tab)], narrowed := true }
def BtreeCommitsUptoSaid : Prop := btreeCommitsUptoRow.holds Tryz.pinned (OpenSpec.upto btreeCommitsSpec)

end Rows
end Go.Proofs.YtpkkcicaeldodaaGreatDoor
