/- What the cards share: the tables that the rows list, as the walks ask for them; a world for the witnesses. Conditions: none. -/
import Derived.Test.YtcicibeggkmlcaaGreatDoorLwAJ3
import Derived.Test.YtcicibeggkmlcaaGreatDoorCards
import Derived.Test.YtcicibeggkmlcaaGreatDoorTie
import Derived.WalkKit
import Derived.ProofKit
import Derived.OpenShut
import Derived.Deep.DeepHandedRow
import Derived.Deep.DeepWitnessRowRef
import Derived.Lib.LaidIn
import Derived.Lib.LaidU8T
import Derived.Shelf.Vars
namespace Go.Proofs.YtcicibeggkmlcaaGreatDoor
open Go.ChangeShapes Go.WideShapes Go.ChangeAt Go.RowKit Go.Sof Go.Lib

theorem A_own : ownKnob Tryz.prog.godebug = none := by kernel_rfl

theorem laid_plain (W : World) (h : laidMetH Tryz.prog Rows.charsLookUptoRow.laid W) : laidMet Tryz.prog Rows.charsLookUptoRow.laid W := h
theorem first_same : Rows.laid_unicode_utf8_first = Lib.firstData := by kernel_rfl
theorem accept_same : (Rows.laid_unicode_utf8_acceptRanges : DataW Unit) = Lib.acceptData := by kernel_rfl
theorem maxlen_zero : ((begin Tryz.prog (fun _ _ => 0) default).world.heap[2]?).bind Obj.row? = some (#[.int .i64 0], 3) := by kernel_rfl

/-- WHAT THE ROWS' LIST GIVES: the two tables of unicode/utf8, and some number in bytealg.MaxLen. -/
theorem wok_of (W : World) (h : laidMetH Tryz.prog Rows.charsLookUptoRow.laid W) (hs : W.ShapedOpen Tryz.prog) : WOK W := by
  have h1 := laid_plain W h
  have r1 : VarReads Tryz.prog W "unicode/utf8.first" Rows.laid_unicode_utf8_first := Lib.laidMet.reads h1 (.tail _ (.tail _ (.tail _ (.tail _ (.tail _ (.tail _ (.head _)))))))
  have r2 : VarReads Tryz.prog W "unicode/utf8.acceptRanges" Rows.laid_unicode_utf8_acceptRanges := Lib.laidMet.reads h1 (.tail _ (.tail _ (.tail _ (.head _))))
  rw [first_same] at r1
  rw [accept_same] at r2
  refine ⟨utf8Tabs_of_readsT (U8Types.of260 Tryz.lays260) ⟨by kernel_rfl, by kernel_rfl, by kernel_rfl, by kernel_rfl, by kernel_rfl, by kernel_rfl, by kernel_rfl⟩ r1 r2, ?_⟩
  exact cell_of_shapedOpen_int hs (of_decide_eq_true (by kernel_rfl)) maxlen_zero rfl (by kernel_rfl) (by kernel_rfl) Tryz.underlying3

/-- the numbers of a table, as a row lists them. -/
def numCells : DataW Unit → List Value
  | .agg l => l.map fun x => match x with | .lit (.int k z) => .int k z | _ => .nilIface
  | _ => []
def numCells2 : DataW Unit → List Value
  | .agg l => l.flatMap numCells
  | _ => []

noncomputable def lowB : Nat := (World.holding Tryz.prog default ⟨#[], #[], []⟩).heap.size
/-- A WORLD FOR THE WITNESSES: the settled one, the listed variables holding what their initialisers lay. -/
noncomputable def laidWorld (os : Os) : World :=
  let w0 := World.holding Tryz.prog os ⟨#[.cells #[.string ⟨#[105, 110, 118, 97, 108, 105, 100, 32, 115, 121, 110, 116, 97, 120]⟩] 202, .cells #[.string ⟨#[118, 97, 108, 117, 101, 32, 111, 117, 116, 32, 111, 102, 32, 114, 97, 110, 103, 101]⟩] 202], #[], []⟩
  let put (h : Array Obj) (g : Nat) (cs : Array Value) : Array Obj := h.modify g fun
    | .cells _ t frozen => .cells cs t frozen
    | o => o
  let h1 := put w0.heap 0 (numCells Rows.laid_unicode_utf8_first).toArray
  let h2 := put h1 1 (numCells2 Rows.laid_unicode_utf8_acceptRanges).toArray
  let h3 := put h2 3 #[.iface 200 (.pointer (some ⟨lowB, 0, none⟩))]
  let h4 := put h3 4 #[.iface 200 (.pointer (some ⟨lowB + 1, 0, none⟩))]
  let h5 := put h4 5 (numCells Rows.laid_internal_strconv_uint64pow10).toArray
  let h6 := put h5 6 (numCells Rows.laid_math_bits_deBruijn32tab).toArray
  let h7 := put h6 7 (numCells Rows.laid_math_bits_deBruijn64tab).toArray
  { w0 with heap := h7 }
theorem laid_met (os : Os) (args : Array Value) : laidMet Tryz.prog Rows.charsLookUptoRow.laid ((laidWorld os).forCall (fun _ _ => 0) ⟨#[], args, []⟩).memory :=
  (LaidIn.of_run (l := Rows.charsLookUptoRow.laid) [0, 1, 3, 4, 5, 6, 7, lowB, lowB + 1] 8 (by kernel_rfl) (by kernel_rfl) (by kernel_rfl) (by kernel_rfl)).met

/-- a string's bulk. -/
theorem bulk_one {H : Type} {l : List UInt8} (h : Rows.uptoSmall H ([.lit (.string l)] ++ []) = true) : l.length ≤ 1048576 := by
  simp [Rows.uptoSmall, Rows.uptoBulkAll, Rows.uptoBulk] at h; omega
theorem bulk_two {H : Type} {l m : List UInt8} (h : Rows.uptoSmall H ([.lit (.string l), .lit (.string m)] ++ []) = true) : l.length + m.length ≤ 1048576 := by
  simp [Rows.uptoSmall, Rows.uptoBulkAll, Rows.uptoBulk] at h; omega
end Go.Proofs.YtcicibeggkmlcaaGreatDoor
