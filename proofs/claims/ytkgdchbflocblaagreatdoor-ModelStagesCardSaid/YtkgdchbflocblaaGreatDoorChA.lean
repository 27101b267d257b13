/- The walks of the leaves of package chars and of its reference. Conditions: each theorem's own premises. -/
import Derived.Test.YtkgdchbflocblaaGreatDoorShelf
import Derived.Test.YtkgdchbflocblaaGreatDoorPlA
import Derived.WalkKit
import Derived.WalkLawsBesides
import Derived.WalkSpells
import Derived.Lib.Hide
import Derived.Deep.QuietTactic
import Derived.BigQuiet
namespace Go.Proofs.YtkgdchbflocblaaGreatDoor
open Go.RowKit Go.Sof

theorem ret_bool {a b : Bool} (h : a = b) : Ending.returned (.bool a) = .returned (.bool b) := by rw [h]
theorem ret_int {k : IntKind} {a b : Int} (h : a = b) : Ending.returned (.int k a) = .returned (.int k b) := by rw [h]
theorem ret_str {a b : ByteArray} (h : a = b) : Ending.returned (.string a) = .returned (.string b) := by rw [h]

theorem signB_int (r : Nat) (b : Bool) (h : b = true ↔ ((r : Int) = 9 ∨ (r : Int) = 10 ∨ (r : Int) = 13 ∨ (32 ≤ (r : Int) ∧ (r : Int) ≤ 0xD7FF) ∨ (0xE000 ≤ (r : Int) ∧ (r : Int) ≤ 0xFFFD) ∨ (0x10000 ≤ (r : Int) ∧ (r : Int) ≤ 0x10FFFF))) : b = signB r := by
  rw [signB_eq, Bool.eq_iff_iff, h, decide_eq_true_iff]; omega

theorem sign_c (r : Nat) (w : World) : Calls Tryz.prog 139 #[.int .i32 r] w fun e w' => e = .returned (.bool (signB r)) ∧ w = w' := by
  go_enter Tryz.func139, Tryz.ntmps139
  go_wp2
  all_goals go_ret
  all_goals refine ⟨ret_bool (signB_int r _ ?_), rfl⟩
  all_goals (simp; try omega)


theorem letterB_int (r : Nat) (b : Bool) (h : b = true ↔ ((97 ≤ (r : Int) ∧ (r : Int) ≤ 122) ∨ (65 ≤ (r : Int) ∧ (r : Int) ≤ 90) ∨ (r : Int) = 95)) : b = letterB r := by
  rw [Bool.eq_iff_iff, h]; simp [letterB]; omega

theorem letter_c (r : UInt8) (w : World) : Calls Tryz.prog 141 #[.int .u8 r.toNat] w fun e w' => e = .returned (.bool (letterB r.toNat)) ∧ w = w' := by
  go_enter Tryz.func141, Tryz.ntmps141
  go_wp2
  all_goals go_ret
  all_goals refine ⟨ret_bool (letterB_int _ _ ?_), rfl⟩
  all_goals (simp; try omega)
end Go.Proofs.YtkgdchbflocblaaGreatDoor
