/- Another thing that the card asks. Conditions: none. -/
import Derived.Test.YtkgdchbflocblaaGreatDoorCards
import Derived.KernelRfl
namespace Go.Proofs.YtkgdchbflocblaaGreatDoor.modelStages
theorem goes : false = Rows.modelStagesRow.goesBy Tryz.pinned.checked.prog := by kernel_rfl
end Go.Proofs.YtkgdchbflocblaaGreatDoor.modelStages
