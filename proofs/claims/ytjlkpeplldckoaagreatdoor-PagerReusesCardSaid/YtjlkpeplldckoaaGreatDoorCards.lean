/-
  DERIVED. GIVEN WITH THE SEED: THE CARDS: each row of YtjlkpeplldckoaaGreatDoorRows.lean that lists a variable, with what it lists TIED to the program's text (the seventh form; the later family's looks); each row that meets fmt, with fmt's text TOLD by the authors' own Lean function (tested against real Go, not proved from fmt's source: count such statements apart). THE CARD IS WHAT COUNTS. Prove the row's statement (the work); the ties are given (YtjlkpeplldckoaaGreatDoorTie.lean); close each card by the builder's one call (the guide's Derived/Test/ToyasCard.lean, 'card_holds'). Laid BY PROGRAM, IN A SANDBOX (cutbox-door.mjs). By AI agents, Wed Nov 11 2026. No macro, syntax, notation, axiom, sorry.
-/
import Derived.Test.YtjlkpeplldckoaaGreatDoorRows
import GoSem.ClaimSeven
namespace Go.Proofs.YtjlkpeplldckoaaGreatDoor
namespace Rows

/-- THE TIED CARD OF 'deedholdlaw08.PagerPlaces'. -/
def pagerPlacesCard : Claim7 := { stood := { row := pagerPlacesRow, standIns := [], harness := (true, "e838dc7b75014b627329003ac3b121feec84ae14f3134cbc311676424884362b"), looks := false }, kinds := [], alts := [], laidByText := true, laidKinds := [.data], laidTests := true, laidLooks := .later }
def PagerPlacesCardSaid : Prop := Claim7.holds Tryz.pinned (.plain (OpenSpec.ofChange pagerPlacesSpec)) pagerPlacesCard

/-- THE TIED CARD OF 'deedholdlaw08.PagerReuses'. -/
def pagerReusesCard : Claim7 := { stood := { row := pagerReusesRow, standIns := [], harness := (true, "e838dc7b75014b627329003ac3b121feec84ae14f3134cbc311676424884362b"), looks := false }, kinds := [], alts := [], laidByText := true, laidKinds := [.data], laidTests := true, laidLooks := .later }
def PagerReusesCardSaid : Prop := Claim7.holds Tryz.pinned (.plain (OpenSpec.ofChange pagerReusesSpec)) pagerReusesCard

/-- THE SECOND FORM's CARD OF 'deedholdlaw08.PagerPlaces'. -/
def pagerPlacesUptoCard : Claim7 := { stood := { row := pagerPlacesUptoRow, standIns := [], harness := (true, "e838dc7b75014b627329003ac3b121feec84ae14f3134cbc311676424884362b"), looks := false }, kinds := [], alts := [], laidByText := true, laidKinds := [.data], laidTests := true, laidLooks := .later }
def PagerPlacesUptoCardSaid : Prop := Claim7.holds Tryz.pinned (.plain (OpenSpec.upto pagerPlacesSpec)) pagerPlacesUptoCard

/-- THE SECOND FORM's CARD OF 'deedholdlaw08.PagerReuses'. -/
def pagerReusesUptoCard : Claim7 := { stood := { row := pagerReusesUptoRow, standIns := [], harness := (true, "e838dc7b75014b627329003ac3b121feec84ae14f3134cbc311676424884362b"), looks := false }, kinds := [], alts := [], laidByText := true, laidKinds := [.data], laidTests := true, laidLooks := .later }
def PagerReusesUptoCardSaid : Prop := Claim7.holds Tryz.pinned (.plain (OpenSpec.upto pagerReusesSpec)) pagerReusesUptoCard
end Rows
end Go.Proofs.YtjlkpeplldckoaaGreatDoor
