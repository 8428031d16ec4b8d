/-
  DERIVED. GIVEN WITH THE SEED: THE CARDS: each row of YtjlfnebkibgfmaaGreatDoorRows.lean that lists a variable, with what it lists TIED to the program's text (the seventh form; the later family's looks); each row that meets fmt, with fmt's text TOLD by the authors' own Lean function (tested against real Go, not proved from fmt's source: count such statements apart). THE CARD IS WHAT COUNTS. Prove the row's statement (the work); the ties are given (YtjlfnebkibgfmaaGreatDoorTie.lean); close each card by the builder's one call (the guide's Derived/Test/ToyasCard.lean, 'card_holds'). Laid BY PROGRAM, IN A SANDBOX (cutbox-door.mjs). By AI agents, Wed Nov 11 2026. No macro, syntax, notation, axiom, sorry.
-/
import Derived.Test.YtjlfnebkibgfmaaGreatDoorRows
import GoSem.ClaimSeven
namespace Go.Proofs.YtjlfnebkibgfmaaGreatDoor
namespace Rows

/-- THE TIED CARD OF 'deedholdlaw11.ChainFull'. -/
def chainFullCard : Claim7 := { stood := { row := chainFullRow, standIns := [], harness := (true, "038a67cf727a87b6cb0f53c3d6f34ce9b16c6f48cb12e4dae44cdfdc7878491a"), looks := false }, kinds := [], alts := [], laidByText := true, laidKinds := [.data], laidTests := true, laidLooks := .later }
def ChainFullCardSaid : Prop := Claim7.holds Tryz.pinned (.plain (OpenSpec.ofChange chainFullSpec)) chainFullCard

/-- THE SECOND FORM's CARD OF 'deedholdlaw11.ChainFull'. -/
def chainFullUptoCard : Claim7 := { stood := { row := chainFullUptoRow, standIns := [], harness := (true, "038a67cf727a87b6cb0f53c3d6f34ce9b16c6f48cb12e4dae44cdfdc7878491a"), looks := false }, kinds := [], alts := [], laidByText := true, laidKinds := [.data], laidTests := true, laidLooks := .later }
def ChainFullUptoCardSaid : Prop := Claim7.holds Tryz.pinned (.plain (OpenSpec.upto chainFullSpec)) chainFullUptoCard
end Rows
end Go.Proofs.YtjlfnebkibgfmaaGreatDoor
