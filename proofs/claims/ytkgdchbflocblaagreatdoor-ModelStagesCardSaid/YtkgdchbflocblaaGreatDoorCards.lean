/-
  DERIVED. GIVEN WITH THE SEED: THE CARDS: each row of YtkgdchbflocblaaGreatDoorRows.lean that lists a variable, with what it lists TIED to the program's text (the seventh form; the later family's looks); each row that meets fmt, with fmt's text TOLD by the authors' own Lean function (tested against real Go, not proved from fmt's source: count such statements apart). THE CARD IS WHAT COUNTS. Prove the row's statement (the work); the ties are given (YtkgdchbflocblaaGreatDoorTie.lean); close each card by the builder's one call (the guide's Derived/Test/ToyasCard.lean, 'card_holds'). Laid BY PROGRAM, IN A SANDBOX (cutbox-door.mjs). By AI agents, Wed Nov 11 2026. No macro, syntax, notation, axiom, sorry.
-/
import Derived.Test.YtkgdchbflocblaaGreatDoorRows
import GoSem.ClaimSeven
namespace Go.Proofs.YtkgdchbflocblaaGreatDoor
namespace Rows

/-- THE TIED CARD OF 'soffitlaw19.ModelStages'. -/
def modelStagesCard : Claim7 := { stood := { row := modelStagesRow, standIns := [], harness := (true, "a418e86a42d3f8a365b20781f35f2e108a2c58d95e4ea1c3bbe80d8caabda862"), looks := true }, kinds := [], alts := [], laidByText := true, laidKinds := [.data, .data, .data, .data, .sentinel, .sentinel, .data, .pinned], laidTests := true, laidLooks := .later }
def ModelStagesCardSaid : Prop := Claim7.holds Tryz.pinned (.plain (OpenSpec.ofChange modelStagesSpec)) modelStagesCard

/-- THE SECOND FORM's CARD OF 'soffitlaw19.ModelStages'. -/
def modelStagesUptoCard : Claim7 := { stood := { row := modelStagesUptoRow, standIns := [], harness := (true, "a418e86a42d3f8a365b20781f35f2e108a2c58d95e4ea1c3bbe80d8caabda862"), looks := true }, kinds := [], alts := [], laidByText := true, laidKinds := [.data, .data, .data, .data, .sentinel, .sentinel, .data, .pinned], laidTests := true, laidLooks := .later }
def ModelStagesUptoCardSaid : Prop := Claim7.holds Tryz.pinned (.plain (OpenSpec.upto modelStagesSpec)) modelStagesUptoCard
end Rows
end Go.Proofs.YtkgdchbflocblaaGreatDoor
