/- ModelStages at four of its inputs, run by the kernel. Conditions: none. -/
import Derived.Test.YtkgdchbflocblaaGreatDoorSgA
namespace Go.Proofs.YtkgdchbflocblaaGreatDoor
open Go.Ev
theorem stage16 : Ran Tryz.prog Hk1 1000 3 [vBool true, vBool false, vBool false, vBool false, vBool false] 9 := ⟨by kernel_rfl⟩
theorem stage17 : Ran Tryz.prog Hk1 1000 3 [vBool true, vBool false, vBool false, vBool false, vBool true] 9 := ⟨by kernel_rfl⟩
theorem stage18 : Ran Tryz.prog Hk1 1000 3 [vBool true, vBool false, vBool false, vBool true, vBool false] 9 := ⟨by kernel_rfl⟩
theorem stage19 : Ran Tryz.prog Hk1 1000 3 [vBool true, vBool false, vBool false, vBool true, vBool true] 9 := ⟨by kernel_rfl⟩
end Go.Proofs.YtkgdchbflocblaaGreatDoor
