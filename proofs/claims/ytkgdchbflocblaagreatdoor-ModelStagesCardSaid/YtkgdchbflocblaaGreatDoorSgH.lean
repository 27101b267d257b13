/- ModelStages at four of its inputs, run by the kernel. Conditions: none. -/
import Derived.Test.YtkgdchbflocblaaGreatDoorSgA
namespace Go.Proofs.YtkgdchbflocblaaGreatDoor
open Go.Ev
theorem stage24 : Ran Tryz.prog Hk1 1000 3 [vBool true, vBool true, vBool false, vBool false, vBool false] 9 := ⟨by kernel_rfl⟩
theorem stage25 : Ran Tryz.prog Hk1 1000 3 [vBool true, vBool true, vBool false, vBool false, vBool true] 9 := ⟨by kernel_rfl⟩
theorem stage26 : Ran Tryz.prog Hk1 1000 3 [vBool true, vBool true, vBool false, vBool true, vBool false] 9 := ⟨by kernel_rfl⟩
theorem stage27 : Ran Tryz.prog Hk1 1000 3 [vBool true, vBool true, vBool false, vBool true, vBool true] 9 := ⟨by kernel_rfl⟩
end Go.Proofs.YtkgdchbflocblaaGreatDoor
