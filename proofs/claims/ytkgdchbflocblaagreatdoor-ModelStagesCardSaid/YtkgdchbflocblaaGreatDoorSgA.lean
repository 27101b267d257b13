/- The evaluator over this program: the functions that it answers without running them; the awake of chapter 19. Conditions: the world holds the package's variables. -/
import Derived.Test.YtkgdchbflocblaaGreatDoorEfC
import Derived.Test.YtkgdchbflocblaaGreatDoorRqD
import Derived.KernelRfl
namespace Go.Proofs.YtkgdchbflocblaaGreatDoor
open Go.RowKit Go.Ev

noncomputable def Hk0 : Hook := fun f => bsel (Nat.beq f 231) (some xSame) (bsel (Nat.beq f 189) (some xIdx) (bsel (Nat.beq f 186) (some (xEscape 137)) none))
noncomputable def Hk1 : Hook := fun f => bsel (Nat.beq f 5) (some xTrue) (Hk0 f)

theorem no_num : NoNum Tryz.prog := fun f fn hf hb => by
  have key : (Tryz.prog.funcs.all fun fn => fn.body.isNone || !(fn.name == "runtime.NumGoroutine")) = true := by kernel_rfl
  have := Array.all_eq_true_iff_forall_mem.1 key fn (Array.mem_of_getElem? hf)
  rw [hb] at this
  simpa using this
theorem mixed : Tryz.prog.follows .mixedOrders = true := by kernel_rfl
theorem gl_size : 9 = Tryz.prog.globals.size := by kernel_rfl

theorem hk0_ok : HookOK Tryz.prog Hk0 := fun f m h call hc => by
  unfold Hk0 at h
  by_cases h1 : f = 231
  · subst h1
    cases h
    exact same_ok Tryz.func231 (by kernel_rfl) (by kernel_rfl) (by kernel_rfl) (by kernel_rfl)
  rw [beq_no h1, bsel_false] at h
  by_cases h2 : f = 189
  · subst h2
    cases h
    exact idx_ok Tryz.func189 (by kernel_rfl) (by kernel_rfl) (by kernel_rfl) (by kernel_rfl)
  rw [beq_no h2, bsel_false] at h
  by_cases h3 : f = 186
  · subst h3
    cases h
    exact escape_ok hc Tryz.func186 (by kernel_rfl) (by kernel_rfl) Tryz.func137 (by kernel_rfl) (by kernel_rfl) fun s w R hs HG => escape_g s w R hs HG
  rw [beq_no h3, bsel_false] at h
  cases h

/-- THE AWAKE, RUN BY THE KERNEL. -/
theorem awake_run : Ran Tryz.prog Hk0 1000 5 [] 9 := ⟨by kernel_rfl⟩
theorem awake_c (w : World) (hw : 9 ≤ w.heap.size) : Calls Tryz.prog 5 #[] w fun e w' => e = .returned (.bool true) ∧ Below w.heap.size w w' :=
  start_true no_num mixed hk0_ok Tryz.func5 (by kernel_rfl) gl_size awake_run (fun _ => .nil) hw

theorem hk1_ok : HookOK Tryz.prog Hk1 := fun f m h call hc => by
  unfold Hk1 at h
  by_cases h1 : f = 5
  · subst h1
    cases h
    exact true_ok Tryz.func5 (by kernel_rfl) (by kernel_rfl) gl_size (by kernel_rfl) awake_c
  rw [beq_no h1, bsel_false] at h
  exact hk0_ok f m h call hc
end Go.Proofs.YtkgdchbflocblaaGreatDoor
