/- What the card asks of ModelStages' function. Conditions: none. -/
import Derived.Test.YtkgdchbflocblaaGreatDoorCards
import Derived.KernelRfl
namespace Go.Proofs.YtkgdchbflocblaaGreatDoor.modelStages
theorem main_is : Tryz.pinned.checked.prog.mainIs = some (Rows.modelStagesCard.stood.harness.1, Rows.modelStagesCard.stood.harness.2.toList) := by kernel_rfl
theorem plain (f : FuncId) (fn : Func) (hf : Tryz.pinned.checked.prog.funcNamed "soffit/soffitlaw19.ModelStages" = some f) (hfn : Tryz.pinned.checked.prog.funcs[f]? = some fn) :
    true = Tryz.pinned.checked.prog.looks [] ∧ ∀ (j : Nat) t, fn.params[j]? = some t → Tryz.pinned.checked.prog.wantsStandIn t = false := by
  obtain rfl : f = 3 := Option.some.inj ((show Tryz.prog.funcNamed "soffit/soffitlaw19.ModelStages" = some 3 by kernel_rfl).symm.trans hf) |>.symm
  obtain rfl : fn = Tryz.f3 := (Option.some.inj (Tryz.func3.symm.trans hfn)).symm
  refine ⟨by kernel_rfl, fun j t ht => ?_⟩
  rw [Tryz.params3] at ht
  have ht' : t = 4 := by simpa using Array.mem_of_getElem? ht
  rw [ht']
  exact (show Tryz.prog.wantsStandIn 4 = false by kernel_rfl)

end Go.Proofs.YtkgdchbflocblaaGreatDoor.modelStages
