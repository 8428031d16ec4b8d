/-
  DERIVED. GIVEN WITH THE SEED: THE CARDS: each row of YtpkkcicaeldodaaGreatDoorRows.lean that lists a variable, with what it lists TIED to the program's text (the seventh form; the later family's looks); each row that meets fmt, with fmt's text TOLD by the authors' own Lean function (tested against real Go, not proved from fmt's source: count such statements apart). THE CARD IS WHAT COUNTS. Prove the row's statement (the work); the ties are given (YtpkkcicaeldodaaGreatDoorTie.lean); close each card by the builder's one call (the guide's Derived/Test/ToyasCard.lean, 'card_holds'). Laid BY PROGRAM, IN A SANDBOX (cutbox-door.mjs). By AI agents, Wed Nov 11 2026. No macro, syntax, notation, axiom, sorry.
-/
import Derived.Test.YtpkkcicaeldodaaGreatDoorRows
import GoSem.ClaimSeven
namespace Go.Proofs.YtpkkcicaeldodaaGreatDoor
namespace Rows

/-- THE TIED CARD OF 'deedholdlaw10.BtreeOrders'. -/
def btreeOrdersCard : Claim7 := { stood := { row := btreeOrdersRow, standIns := [], harness := (true, "f078d1dd5c2169349e02a5a080f6ca38acd36085ee80b672bd1b3266dfa1de4a"), looks := false }, kinds := [], alts := [], laidByText := true, laidKinds := [.data], laidTests := true, laidLooks := .later }
def BtreeOrdersCardSaid : Prop := Claim7.holds Tryz.pinned (.plain (OpenSpec.ofChange btreeOrdersSpec)) btreeOrdersCard

/-- THE TIED CARD OF 'deedholdlaw10.BtreeEach'. -/
def btreeEachCard : Claim7 := { stood := { row := btreeEachRow, standIns := [], harness := (true, "f078d1dd5c2169349e02a5a080f6ca38acd36085ee80b672bd1b3266dfa1de4a"), looks := false }, kinds := [], alts := [], laidByText := true, laidKinds := [.data], laidTests := true, laidLooks := .later }
def BtreeEachCardSaid : Prop := Claim7.holds Tryz.pinned (.plain (OpenSpec.ofChange btreeEachSpec)) btreeEachCard

/-- THE TIED CARD OF 'deedholdlaw10.BtreePlays'. -/
def btreePlaysCard : Claim7 := { stood := { row := btreePlaysRow, standIns := [], harness := (true, "f078d1dd5c2169349e02a5a080f6ca38acd36085ee80b672bd1b3266dfa1de4a"), looks := false }, kinds := [], alts := [], laidByText := true, laidKinds := [.data], laidTests := true, laidLooks := .later }
def BtreePlaysCardSaid : Prop := Claim7.holds Tryz.pinned (.plain (OpenSpec.ofChange btreePlaysSpec)) btreePlaysCard

/-- THE TIED CARD OF 'deedholdlaw10.BtreeSmall'. -/
def btreeSmallCard : Claim7 := { stood := { row := btreeSmallRow, standIns := [], harness := (true, "f078d1dd5c2169349e02a5a080f6ca38acd36085ee80b672bd1b3266dfa1de4a"), looks := false }, kinds := [], alts := [], laidByText := true, laidKinds := [.data], laidTests := true, laidLooks := .later }
def BtreeSmallCardSaid : Prop := Claim7.holds Tryz.pinned (.plain (OpenSpec.ofChange btreeSmallSpec)) btreeSmallCard

/-- THE TIED CARD OF 'deedholdlaw10.BtreeFull'. -/
def btreeFullCard : Claim7 := { stood := { row := btreeFullRow, standIns := [], harness := (true, "f078d1dd5c2169349e02a5a080f6ca38acd36085ee80b672bd1b3266dfa1de4a"), looks := false }, kinds := [], alts := [], laidByText := true, laidKinds := [.data], laidTests := true, laidLooks := .later }
def BtreeFullCardSaid : Prop := Claim7.holds Tryz.pinned (.plain (OpenSpec.ofChange btreeFullSpec)) btreeFullCard

/-- THE TIED CARD OF 'deedholdlaw10.BtreeCommits'. -/
def btreeCommitsCard : Claim7 := { stood := { row := btreeCommitsRow, standIns := [], harness := (true, "f078d1dd5c2169349e02a5a080f6ca38acd36085ee80b672bd1b3266dfa1de4a"), looks := false }, kinds := [], alts := [], laidByText := true, laidKinds := [.data], laidTests := true, laidLooks := .later }
def BtreeCommitsCardSaid : Prop := Claim7.holds Tryz.pinned (.plain (OpenSpec.ofChange btreeCommitsSpec)) btreeCommitsCard

/-- THE SECOND FORM's CARD OF 'deedholdlaw10.BtreeOrders'. -/
def btreeOrdersUptoCard : Claim7 := { stood := { row := btreeOrdersUptoRow, standIns := [], harness := (true, "f078d1dd5c2169349e02a5a080f6ca38acd36085ee80b672bd1b3266dfa1de4a"), looks := false }, kinds := [], alts := [], laidByText := true, laidKinds := [.data], laidTests := true, laidLooks := .later }
def BtreeOrdersUptoCardSaid : Prop := Claim7.holds Tryz.pinned (.plain (OpenSpec.upto btreeOrdersSpec)) btreeOrdersUptoCard

/-- THE SECOND FORM's CARD OF 'deedholdlaw10.BtreeEach'. -/
def btreeEachUptoCard : Claim7 := { stood := { row := btreeEachUptoRow, standIns := [], harness := (true, "f078d1dd5c2169349e02a5a080f6ca38acd36085ee80b672bd1b3266dfa1de4a"), looks := false }, kinds := [], alts := [], laidByText := true, laidKinds := [.data], laidTests := true, laidLooks := .later }
def BtreeEachUptoCardSaid : Prop := Claim7.holds Tryz.pinned (.plain (OpenSpec.upto btreeEachSpec)) btreeEachUptoCard

/-- THE SECOND FORM's CARD OF 'deedholdlaw10.BtreePlays'. -/
def btreePlaysUptoCard : Claim7 := { stood := { row := btreePlaysUptoRow, standIns := [], harness := (true, "f078d1dd5c2169349e02a5a080f6ca38acd36085ee80b672bd1b3266dfa1de4a"), looks := false }, kinds := [], alts := [], laidByText := true, laidKinds := [.data], laidTests := true, laidLooks := .later }
def BtreePlaysUptoCardSaid : Prop := Claim7.holds Tryz.pinned (.plain (OpenSpec.upto btreePlaysSpec)) btreePlaysUptoCard

/-- THE SECOND FORM's CARD OF 'deedholdlaw10.BtreeSmall'. -/
def btreeSmallUptoCard : Claim7 := { stood := { row := btreeSmallUptoRow, standIns := [], harness := (true, "f078d1dd5c2169349e02a5a080f6ca38acd36085ee80b672bd1b3266dfa1de4a"), looks := false }, kinds := [], alts := [], laidByText := true, laidKinds := [.data], laidTests := true, laidLooks := .later }
def BtreeSmallUptoCardSaid : Prop := Claim7.holds Tryz.pinned (.plain (OpenSpec.upto btreeSmallSpec)) btreeSmallUptoCard

/-- THE SECOND FORM's CARD OF 'deedholdlaw10.BtreeFull'. -/
def btreeFullUptoCard : Claim7 := { stood := { row := btreeFullUptoRow, standIns := [], harness := (true, "f078d1dd5c2169349e02a5a080f6ca38acd36085ee80b672bd1b3266dfa1de4a"), looks := false }, kinds := [], alts := [], laidByText := true, laidKinds := [.data], laidTests := true, laidLooks := .later }
def BtreeFullUptoCardSaid : Prop := Claim7.holds Tryz.pinned (.plain (OpenSpec.upto btreeFullSpec)) btreeFullUptoCard

/-- THE SECOND FORM's CARD OF 'deedholdlaw10.BtreeCommits'. -/
def btreeCommitsUptoCard : Claim7 := { stood := { row := btreeCommitsUptoRow, standIns := [], harness := (true, "f078d1dd5c2169349e02a5a080f6ca38acd36085ee80b672bd1b3266dfa1de4a"), looks := false }, kinds := [], alts := [], laidByText := true, laidKinds := [.data], laidTests := true, laidLooks := .later }
def BtreeCommitsUptoCardSaid : Prop := Claim7.holds Tryz.pinned (.plain (OpenSpec.upto btreeCommitsSpec)) btreeCommitsUptoCard
end Rows
end Go.Proofs.YtpkkcicaeldodaaGreatDoor
