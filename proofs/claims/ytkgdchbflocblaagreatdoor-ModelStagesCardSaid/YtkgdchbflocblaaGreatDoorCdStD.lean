/- Another thing that the card asks: no function of the translation starts a goroutine. Conditions: none. -/
import Derived.Test.YtkgdchbflocblaaGreatDoorCards
import Derived.KernelRfl
namespace Go.Proofs.YtkgdchbflocblaaGreatDoor.modelStages

/-- No function of the translation starts a goroutine: no call does. -/
theorem goes_of {P : Program} {c : OpenClaim} (h : P.funcs.any Func.goes = false) (hs : c.start = .entering) : false = c.goesBy P := by
  unfold OpenClaim.goesBy Program.goesAt
  rw [hs]
  have hf : P.goesFrom c.func = false := by
    unfold Program.goesFrom
    cases P.funcNamed c.func with
    | none => rfl
    | some f =>
      show P.goes f = false
      unfold Program.goes
      rw [h, Bool.and_false, Bool.or_false]
      rw [List.any_eq_false]
      intro g _
      cases hg : P.funcs[g]? with
      | none => simp
      | some fn =>
        have := (Array.any_eq_false.1 h) g (Array.getElem?_eq_some_iff.1 hg).1
        rw [(Array.getElem?_eq_some_iff.1 hg).2] at this
        simpa using this
  rw [hf]; rfl
theorem none_goes : (Tryz.prog.funcs.any Func.goes) = false := by kernel_rfl
theorem goes : false = Rows.modelStagesRow.goesBy Tryz.pinned.checked.prog := goes_of (P := Tryz.prog) none_goes rfl
end Go.Proofs.YtkgdchbflocblaaGreatDoor.modelStages
