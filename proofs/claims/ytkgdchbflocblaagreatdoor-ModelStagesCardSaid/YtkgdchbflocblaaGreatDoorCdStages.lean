/- ModelStages holds of the program, at every input. Conditions: none but the row's own. -/
import Derived.Test.YtkgdchbflocblaaGreatDoorCdStB
import Derived.Test.YtkgdchbflocblaaGreatDoorCdStC
import Derived.Test.YtkgdchbflocblaaGreatDoorCdStD
import Derived.Test.YtkgdchbflocblaaGreatDoorCards
import Derived.Test.YtkgdchbflocblaaGreatDoorTie
namespace Go.Proofs.YtkgdchbflocblaaGreatDoor.modelStages
/-- ████ THE CARD ████ -/
theorem card : Rows.ModelStagesCardSaid :=
  Claim7.holds_tied_plain_at .later [] _ _ _ _ said (fun _ h => by cases h) (by kernel_rfl) (fun _ h => by cases h) modelStages_row_tie rfl ⟨rfl, rfl⟩ main_is rfl plain goes
end Go.Proofs.YtkgdchbflocblaaGreatDoor.modelStages
