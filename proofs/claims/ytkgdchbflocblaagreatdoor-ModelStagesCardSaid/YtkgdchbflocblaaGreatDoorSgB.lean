/- ModelStages at four of its inputs, run by the kernel. Conditions: none. -/
import Derived.Test.YtkgdchbflocblaaGreatDoorSgA
namespace Go.Proofs.YtkgdchbflocblaaGreatDoor
open Go.Ev
theorem stage0 : Ran Tryz.prog Hk1 1000 3 [vBool false, vBool false, vBool false, vBool false, vBool false] 9 := ⟨by kernel_rfl⟩
theorem stage1 : Ran Tryz.prog Hk1 1000 3 [vBool false, vBool false, vBool false, vBool false, vBool true] 9 := ⟨by kernel_rfl⟩
theorem stage2 : Ran Tryz.prog Hk1 1000 3 [vBool false, vBool false, vBool false, vBool true, vBool false] 9 := ⟨by kernel_rfl⟩
theorem stage3 : Ran Tryz.prog Hk1 1000 3 [vBool false, vBool false, vBool false, vBool true, vBool true] 9 := ⟨by kernel_rfl⟩
end Go.Proofs.YtkgdchbflocblaaGreatDoor
