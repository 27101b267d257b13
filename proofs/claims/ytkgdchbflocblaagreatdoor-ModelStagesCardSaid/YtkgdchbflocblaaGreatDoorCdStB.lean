/- ModelStages' row holds. Conditions: none but the row's own. -/
import Derived.Test.YtkgdchbflocblaaGreatDoorCdStA
import Derived.Test.YtkgdchbflocblaaGreatDoorJfA
import Derived.Carry
namespace Go.Proofs.YtkgdchbflocblaaGreatDoor.modelStages
theorem said : Rows.ModelStagesSaid :=
  OpenClaim.holds_of_cond 3 Tryz.f3 rfl rfl rfl rfl rfl rfl rfl ⟨rfl, rfl, rfl, rfl, rfl⟩ rfl rfl rfl rfl rfl (by kernel_rfl) Tryz.func3 modelStagesRow.facts
    (of_decide_eq_true (by kernel_rfl)) (by unfold Func.isWrapper; first | (rw [if_pos (by decide +kernel)]; kernel_rfl) | (rw [if_neg (by decide +kernel)]; exact ⟨rfl, rfl⟩))
    (fun os started H enc _ F => by rw [OpenClaim.pre_eq_preRow]; exact lifted os started H enc F)

end Go.Proofs.YtkgdchbflocblaaGreatDoor.modelStages
