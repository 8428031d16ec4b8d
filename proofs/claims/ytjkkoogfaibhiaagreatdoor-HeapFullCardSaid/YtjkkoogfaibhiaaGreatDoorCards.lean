/-
  DERIVED. GIVEN WITH THE SEED: THE CARDS: each row of YtjkkoogfaibhiaaGreatDoorRows.lean that lists a variable, with what it lists TIED to the program's text (the seventh form; the later family's looks); each row that meets fmt, with fmt's text TOLD by the authors' own Lean function (tested against real Go, not proved from fmt's source: count such statements apart). THE CARD IS WHAT COUNTS. Prove the row's statement (the work); the ties are given (YtjkkoogfaibhiaaGreatDoorTie.lean); close each card by the builder's one call (the guide's Derived/Test/ToyasCard.lean, 'card_holds'). Laid BY PROGRAM, IN A SANDBOX (cutbox-door.mjs). By AI agents, Wed Nov 11 2026. No macro, syntax, notation, axiom, sorry.
-/
import Derived.Test.YtjkkoogfaibhiaaGreatDoorRows
import GoSem.ClaimSeven
namespace Go.Proofs.YtjkkoogfaibhiaaGreatDoor
namespace Rows

/-- THE TIED CARD OF 'deedholdlaw12.HeapLong'. -/
def heapLongCard : Claim7 := { stood := { row := heapLongRow, standIns := [], harness := (true, "d8d7b1ce9058d5c72546383d3a9528fdbad170773bb1c3b5751ef7922c58d7e5"), looks := true }, kinds := [], alts := [], laidByText := true, laidKinds := [.data], laidTests := true, laidLooks := .later }
def HeapLongCardSaid : Prop := Claim7.holds Tryz.pinned (.plain (OpenSpec.ofChange heapLongSpec)) heapLongCard

/-- THE TIED CARD OF 'deedholdlaw12.HeapPlays'. -/
def heapPlaysCard : Claim7 := { stood := { row := heapPlaysRow, standIns := [], harness := (true, "d8d7b1ce9058d5c72546383d3a9528fdbad170773bb1c3b5751ef7922c58d7e5"), looks := true }, kinds := [], alts := [], laidByText := true, laidKinds := [.data], laidTests := true, laidLooks := .later }
def HeapPlaysCardSaid : Prop := Claim7.holds Tryz.pinned (.plain (OpenSpec.ofChange heapPlaysSpec)) heapPlaysCard

/-- THE TIED CARD OF 'deedholdlaw12.HeapFull'. -/
def heapFullCard : Claim7 := { stood := { row := heapFullRow, standIns := [], harness := (true, "d8d7b1ce9058d5c72546383d3a9528fdbad170773bb1c3b5751ef7922c58d7e5"), looks := true }, kinds := [], alts := [], laidByText := true, laidKinds := [.data], laidTests := true, laidLooks := .later }
def HeapFullCardSaid : Prop := Claim7.holds Tryz.pinned (.plain (OpenSpec.ofChange heapFullSpec)) heapFullCard

/-- THE SECOND FORM's CARD OF 'deedholdlaw12.HeapLong'. -/
def heapLongUptoCard : Claim7 := { stood := { row := heapLongUptoRow, standIns := [], harness := (true, "d8d7b1ce9058d5c72546383d3a9528fdbad170773bb1c3b5751ef7922c58d7e5"), looks := true }, kinds := [], alts := [], laidByText := true, laidKinds := [.data], laidTests := true, laidLooks := .later }
def HeapLongUptoCardSaid : Prop := Claim7.holds Tryz.pinned (.plain (OpenSpec.upto heapLongSpec)) heapLongUptoCard

/-- THE SECOND FORM's CARD OF 'deedholdlaw12.HeapPlays'. -/
def heapPlaysUptoCard : Claim7 := { stood := { row := heapPlaysUptoRow, standIns := [], harness := (true, "d8d7b1ce9058d5c72546383d3a9528fdbad170773bb1c3b5751ef7922c58d7e5"), looks := true }, kinds := [], alts := [], laidByText := true, laidKinds := [.data], laidTests := true, laidLooks := .later }
def HeapPlaysUptoCardSaid : Prop := Claim7.holds Tryz.pinned (.plain (OpenSpec.upto heapPlaysSpec)) heapPlaysUptoCard

/-- THE SECOND FORM's CARD OF 'deedholdlaw12.HeapFull'. -/
def heapFullUptoCard : Claim7 := { stood := { row := heapFullUptoRow, standIns := [], harness := (true, "d8d7b1ce9058d5c72546383d3a9528fdbad170773bb1c3b5751ef7922c58d7e5"), looks := true }, kinds := [], alts := [], laidByText := true, laidKinds := [.data], laidTests := true, laidLooks := .later }
def HeapFullUptoCardSaid : Prop := Claim7.holds Tryz.pinned (.plain (OpenSpec.upto heapFullSpec)) heapFullUptoCard
end Rows
end Go.Proofs.YtjkkoogfaibhiaaGreatDoor
