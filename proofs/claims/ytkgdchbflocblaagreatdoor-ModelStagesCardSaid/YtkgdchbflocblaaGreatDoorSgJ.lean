/- ModelStages at all inputs. Conditions: the world holds the package's variables. -/
import Derived.Test.YtkgdchbflocblaaGreatDoorSgB
import Derived.Test.YtkgdchbflocblaaGreatDoorSgC
import Derived.Test.YtkgdchbflocblaaGreatDoorSgD
import Derived.Test.YtkgdchbflocblaaGreatDoorSgE
import Derived.Test.YtkgdchbflocblaaGreatDoorSgF
import Derived.Test.YtkgdchbflocblaaGreatDoorSgG
import Derived.Test.YtkgdchbflocblaaGreatDoorSgH
import Derived.Test.YtkgdchbflocblaaGreatDoorSgI
namespace Go.Proofs.YtkgdchbflocblaaGreatDoor
open Go.RowKit Go.Ev
theorem stage_run (b0 b1 b2 b3 b4 : Bool) : Ran Tryz.prog Hk1 1000 3 [vBool b0, vBool b1, vBool b2, vBool b3, vBool b4] 9 :=
  (match b0 with
  | false => (match b1 with
    | false => (match b2 with
      | false => (match b3 with
        | false => (match b4 with
          | false => stage0
          | true => stage1)
        | true => (match b4 with
          | false => stage2
          | true => stage3))
      | true => (match b3 with
        | false => (match b4 with
          | false => stage4
          | true => stage5)
        | true => (match b4 with
          | false => stage6
          | true => stage7)))
    | true => (match b2 with
      | false => (match b3 with
        | false => (match b4 with
          | false => stage8
          | true => stage9)
        | true => (match b4 with
          | false => stage10
          | true => stage11))
      | true => (match b3 with
        | false => (match b4 with
          | false => stage12
          | true => stage13)
        | true => (match b4 with
          | false => stage14
          | true => stage15))))
  | true => (match b1 with
    | false => (match b2 with
      | false => (match b3 with
        | false => (match b4 with
          | false => stage16
          | true => stage17)
        | true => (match b4 with
          | false => stage18
          | true => stage19))
      | true => (match b3 with
        | false => (match b4 with
          | false => stage20
          | true => stage21)
        | true => (match b4 with
          | false => stage22
          | true => stage23)))
    | true => (match b2 with
      | false => (match b3 with
        | false => (match b4 with
          | false => stage24
          | true => stage25)
        | true => (match b4 with
          | false => stage26
          | true => stage27))
      | true => (match b3 with
        | false => (match b4 with
          | false => stage28
          | true => stage29)
        | true => (match b4 with
          | false => stage30
          | true => stage31)))))
theorem vr_bool (G : Gh) (b : Bool) : VR G (vBool b) (.bool b) := VR.mkBool b _ rfl (by cases b <;> rfl)
theorem stages_c (b0 b1 b2 b3 b4 : Bool) (w : World) (hw : 9 ≤ w.heap.size) : Calls Tryz.prog 3 #[.bool b0, .bool b1, .bool b2, .bool b3, .bool b4] w fun e w' => e = .returned (.bool true) ∧ Below w.heap.size w w' :=
  start_true no_num mixed hk1_ok Tryz.func3 (by kernel_rfl) gl_size (stage_run b0 b1 b2 b3 b4) (fun G => .cons (vr_bool G b0) (.cons (vr_bool G b1) (.cons (vr_bool G b2) (.cons (vr_bool G b3) (.cons (vr_bool G b4) .nil))))) hw
end Go.Proofs.YtkgdchbflocblaaGreatDoor
