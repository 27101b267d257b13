/-
  DERIVED. GIVEN WITH THE SEED: THE CARDS: each row of YtcicibeggkmlcaaDoorRows.lean that lists a variable, with what it lists TIED to the program's text (the seventh form; the later family's looks); each row that meets fmt, with fmt's text TOLD by the authors' own Lean function (tested against real Go, not proved from fmt's source: count such statements apart). THE CARD IS WHAT COUNTS. Prove the row's statement (the work); the ties are given (YtcicibeggkmlcaaDoorTie.lean); close each card by the builder's one call (the guide's Derived/Test/ToyasCard.lean, 'card_holds'). Laid BY PROGRAM, IN A SANDBOX (cutbox-door.mjs). By AI agents, Wed Nov 11 2026. No macro, syntax, notation, axiom, sorry.
-/
import Derived.Test.YtcicibeggkmlcaaDoorRows
import GoSem.ClaimSeven
namespace Go.Proofs.YtcicibeggkmlcaaDoor
namespace Rows

/-- THE TIED CARD OF 'soffitlaw05.MarkParts'. -/
def markPartsCard : Claim7 := { stood := { row := markPartsRow, standIns := [], harness := (true, "30761d1f2fdbb211248c9ed69f0caee32e37cd1a400d41cd418230652f8e9a4c"), looks := true }, kinds := [], alts := [], laidByText := true, laidKinds := [.data, .data, .data, .data, .sentinel, .sentinel, .pinned], laidTests := true, laidLooks := .later }
def MarkPartsCardSaid : Prop := Claim7.holds Tryd.pinned (.plain (OpenSpec.ofChange markPartsSpec)) markPartsCard

/-- THE TIED CARD OF 'soffitlaw05.MarkPlaces'. -/
def markPlacesCard : Claim7 := { stood := { row := markPlacesRow, standIns := [], harness := (true, "30761d1f2fdbb211248c9ed69f0caee32e37cd1a400d41cd418230652f8e9a4c"), looks := true }, kinds := [], alts := [], laidByText := true, laidKinds := [.data, .data, .data, .data, .sentinel, .sentinel, .pinned], laidTests := true, laidLooks := .later }
def MarkPlacesCardSaid : Prop := Claim7.holds Tryd.pinned (.plain (OpenSpec.ofChange markPlacesSpec)) markPlacesCard

/-- THE SECOND FORM's CARD OF 'soffitlaw05.MarkParts'. -/
def markPartsUptoCard : Claim7 := { stood := { row := markPartsUptoRow, standIns := [], harness := (true, "30761d1f2fdbb211248c9ed69f0caee32e37cd1a400d41cd418230652f8e9a4c"), looks := true }, kinds := [], alts := [], laidByText := true, laidKinds := [.data, .data, .data, .data, .sentinel, .sentinel, .pinned], laidTests := true, laidLooks := .later }
def MarkPartsUptoCardSaid : Prop := Claim7.holds Tryd.pinned (.plain (OpenSpec.upto markPartsSpec)) markPartsUptoCard

/-- THE SECOND FORM's CARD OF 'soffitlaw05.MarkPlaces'. -/
def markPlacesUptoCard : Claim7 := { stood := { row := markPlacesUptoRow, standIns := [], harness := (true, "30761d1f2fdbb211248c9ed69f0caee32e37cd1a400d41cd418230652f8e9a4c"), looks := true }, kinds := [], alts := [], laidByText := true, laidKinds := [.data, .data, .data, .data, .sentinel, .sentinel, .pinned], laidTests := true, laidLooks := .later }
def MarkPlacesUptoCardSaid : Prop := Claim7.holds Tryd.pinned (.plain (OpenSpec.upto markPlacesSpec)) markPlacesUptoCard
end Rows
end Go.Proofs.YtcicibeggkmlcaaDoor
