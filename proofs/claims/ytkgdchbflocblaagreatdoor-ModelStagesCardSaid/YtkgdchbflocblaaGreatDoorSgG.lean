/- ModelStages at four of its inputs, run by the kernel. Conditions: none. -/
import Derived.Test.YtkgdchbflocblaaGreatDoorSgA
namespace Go.Proofs.YtkgdchbflocblaaGreatDoor
open Go.Ev
theorem stage20 : Ran Tryz.prog Hk1 1000 3 [vBool true, vBool false, vBool true, vBool false, vBool false] 9 := ⟨by kernel_rfl⟩
theorem stage21 : Ran Tryz.prog Hk1 1000 3 [vBool true, vBool false, vBool true, vBool false, vBool true] 9 := ⟨by kernel_rfl⟩
theorem stage22 : Ran Tryz.prog Hk1 1000 3 [vBool true, vBool false, vBool true, vBool true, vBool false] 9 := ⟨by kernel_rfl⟩
theorem stage23 : Ran Tryz.prog Hk1 1000 3 [vBool true, vBool false, vBool true, vBool true, vBool true] 9 := ⟨by kernel_rfl⟩
end Go.Proofs.YtkgdchbflocblaaGreatDoor
