/- ModelStages at four of its inputs, run by the kernel. Conditions: none. -/
import Derived.Test.YtkgdchbflocblaaGreatDoorSgA
namespace Go.Proofs.YtkgdchbflocblaaGreatDoor
open Go.Ev
theorem stage28 : Ran Tryz.prog Hk1 1000 3 [vBool true, vBool true, vBool true, vBool false, vBool false] 9 := ⟨by kernel_rfl⟩
theorem stage29 : Ran Tryz.prog Hk1 1000 3 [vBool true, vBool true, vBool true, vBool false, vBool true] 9 := ⟨by kernel_rfl⟩
theorem stage30 : Ran Tryz.prog Hk1 1000 3 [vBool true, vBool true, vBool true, vBool true, vBool false] 9 := ⟨by kernel_rfl⟩
theorem stage31 : Ran Tryz.prog Hk1 1000 3 [vBool true, vBool true, vBool true, vBool true, vBool true] 9 := ⟨by kernel_rfl⟩
end Go.Proofs.YtkgdchbflocblaaGreatDoor
