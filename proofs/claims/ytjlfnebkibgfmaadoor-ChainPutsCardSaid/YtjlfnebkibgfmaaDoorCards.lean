/-
  DERIVED. GIVEN WITH THE SEED: THE CARDS: each row of YtjlfnebkibgfmaaDoorRows.lean that lists a variable, with what it lists TIED to the program's text (the seventh form; the later family's looks); each row that meets fmt, with fmt's text TOLD by the authors' own Lean function (tested against real Go, not proved from fmt's source: count such statements apart). THE CARD IS WHAT COUNTS. Prove the row's statement (the work); the ties are given (YtjlfnebkibgfmaaDoorTie.lean); close each card by the builder's one call (the guide's Derived/Test/ToyasCard.lean, 'card_holds'). Laid BY PROGRAM, IN A SANDBOX (cutbox-door.mjs). By AI agents, Wed Nov 11 2026. No macro, syntax, notation, axiom, sorry.
-/
import Derived.Test.YtjlfnebkibgfmaaDoorRows
import GoSem.ClaimSeven
namespace Go.Proofs.YtjlfnebkibgfmaaDoor
namespace Rows

/-- THE TIED CARD OF 'deedholdlaw11.ChainNeeds'. -/
def chainNeedsCard : Claim7 := { stood := { row := chainNeedsRow, standIns := [], harness := (true, "f7ae03fc43707ea0c154f55a44be7cfaae3b5a60a7090baba26e98566bb52c7b"), looks := false }, kinds := [], alts := [], laidByText := true, laidKinds := [.data], laidTests := true, laidLooks := .later }
def ChainNeedsCardSaid : Prop := Claim7.holds Tryd.pinned (.plain (OpenSpec.ofChange chainNeedsSpec)) chainNeedsCard

/-- THE TIED CARD OF 'deedholdlaw11.ChainReads'. -/
def chainReadsCard : Claim7 := { stood := { row := chainReadsRow, standIns := [], harness := (true, "f7ae03fc43707ea0c154f55a44be7cfaae3b5a60a7090baba26e98566bb52c7b"), looks := false }, kinds := [], alts := [], laidByText := true, laidKinds := [.data], laidTests := true, laidLooks := .later }
def ChainReadsCardSaid : Prop := Claim7.holds Tryd.pinned (.plain (OpenSpec.ofChange chainReadsSpec)) chainReadsCard

/-- THE TIED CARD OF 'deedholdlaw11.ChainPuts'. -/
def chainPutsCard : Claim7 := { stood := { row := chainPutsRow, standIns := [], harness := (true, "f7ae03fc43707ea0c154f55a44be7cfaae3b5a60a7090baba26e98566bb52c7b"), looks := false }, kinds := [], alts := [], laidByText := true, laidKinds := [.data], laidTests := true, laidLooks := .later }
def ChainPutsCardSaid : Prop := Claim7.holds Tryd.pinned (.plain (OpenSpec.ofChange chainPutsSpec)) chainPutsCard

/-- THE SECOND FORM's CARD OF 'deedholdlaw11.ChainNeeds'. -/
def chainNeedsUptoCard : Claim7 := { stood := { row := chainNeedsUptoRow, standIns := [], harness := (true, "f7ae03fc43707ea0c154f55a44be7cfaae3b5a60a7090baba26e98566bb52c7b"), looks := false }, kinds := [], alts := [], laidByText := true, laidKinds := [.data], laidTests := true, laidLooks := .later }
def ChainNeedsUptoCardSaid : Prop := Claim7.holds Tryd.pinned (.plain (OpenSpec.upto chainNeedsSpec)) chainNeedsUptoCard

/-- THE SECOND FORM's CARD OF 'deedholdlaw11.ChainReads'. -/
def chainReadsUptoCard : Claim7 := { stood := { row := chainReadsUptoRow, standIns := [], harness := (true, "f7ae03fc43707ea0c154f55a44be7cfaae3b5a60a7090baba26e98566bb52c7b"), looks := false }, kinds := [], alts := [], laidByText := true, laidKinds := [.data], laidTests := true, laidLooks := .later }
def ChainReadsUptoCardSaid : Prop := Claim7.holds Tryd.pinned (.plain (OpenSpec.upto chainReadsSpec)) chainReadsUptoCard

/-- THE SECOND FORM's CARD OF 'deedholdlaw11.ChainPuts'. -/
def chainPutsUptoCard : Claim7 := { stood := { row := chainPutsUptoRow, standIns := [], harness := (true, "f7ae03fc43707ea0c154f55a44be7cfaae3b5a60a7090baba26e98566bb52c7b"), looks := false }, kinds := [], alts := [], laidByText := true, laidKinds := [.data], laidTests := true, laidLooks := .later }
def ChainPutsUptoCardSaid : Prop := Claim7.holds Tryd.pinned (.plain (OpenSpec.upto chainPutsSpec)) chainPutsUptoCard
end Rows
end Go.Proofs.YtjlfnebkibgfmaaDoor
