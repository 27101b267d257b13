/-
  DERIVED. GIVEN WITH THE SEED: THE CARDS: each row of YtcicibeggkmlcaaGreatDoorRows.lean that lists a variable, with what it lists TIED to the program's text (the seventh form; the later family's looks); each row that meets fmt, with fmt's text TOLD by the authors' own Lean function (tested against real Go, not proved from fmt's source: count such statements apart). THE CARD IS WHAT COUNTS. Prove the row's statement (the work); the ties are given (YtcicibeggkmlcaaGreatDoorTie.lean); close each card by the builder's one call (the guide's Derived/Test/ToyasCard.lean, 'card_holds'). Laid BY PROGRAM, IN A SANDBOX (cutbox-door.mjs). By AI agents, Wed Nov 11 2026. No macro, syntax, notation, axiom, sorry.
-/
import Derived.Test.YtcicibeggkmlcaaGreatDoorRows
import GoSem.ClaimSeven
namespace Go.Proofs.YtcicibeggkmlcaaGreatDoor
namespace Rows

/-- THE TIED CARD OF 'soffitlaw03.CharsLook'. -/
def charsLookCard : Claim7 := { stood := { row := charsLookRow, standIns := [], harness := (true, "839631b517b54845ff85f0f2443e0cdf74f3234b015838bacde11b5d2e7d0ffd"), looks := true }, kinds := [], alts := [], laidByText := true, laidKinds := [.data, .data, .data, .data, .sentinel, .sentinel, .pinned], laidTests := true, laidLooks := .later }
def CharsLookCardSaid : Prop := Claim7.holds Tryz.pinned (.plain (OpenSpec.ofChange charsLookSpec)) charsLookCard

/-- THE TIED CARD OF 'soffitlaw03.CharsEscape'. -/
def charsEscapeCard : Claim7 := { stood := { row := charsEscapeRow, standIns := [], harness := (true, "839631b517b54845ff85f0f2443e0cdf74f3234b015838bacde11b5d2e7d0ffd"), looks := true }, kinds := [], alts := [], laidByText := true, laidKinds := [.data, .data, .data, .data, .sentinel, .sentinel, .pinned], laidTests := true, laidLooks := .later }
def CharsEscapeCardSaid : Prop := Claim7.holds Tryz.pinned (.plain (OpenSpec.ofChange charsEscapeSpec)) charsEscapeCard

/-- THE TIED CARD OF 'soffitlaw03.CharsUnescape'. -/
def charsUnescapeCard : Claim7 := { stood := { row := charsUnescapeRow, standIns := [], harness := (true, "839631b517b54845ff85f0f2443e0cdf74f3234b015838bacde11b5d2e7d0ffd"), looks := true }, kinds := [], alts := [], laidByText := true, laidKinds := [.data, .data, .data, .data, .sentinel, .sentinel, .pinned], laidTests := true, laidLooks := .later }
def CharsUnescapeCardSaid : Prop := Claim7.holds Tryz.pinned (.plain (OpenSpec.ofChange charsUnescapeSpec)) charsUnescapeCard

/-- THE TIED CARD OF 'soffitlaw03.CharsBack'. -/
def charsBackCard : Claim7 := { stood := { row := charsBackRow, standIns := [], harness := (true, "839631b517b54845ff85f0f2443e0cdf74f3234b015838bacde11b5d2e7d0ffd"), looks := true }, kinds := [], alts := [], laidByText := true, laidKinds := [.data, .data, .data, .data, .sentinel, .sentinel, .pinned], laidTests := true, laidLooks := .later }
def CharsBackCardSaid : Prop := Claim7.holds Tryz.pinned (.plain (OpenSpec.ofChange charsBackSpec)) charsBackCard

/-- THE TIED CARD OF 'soffitlaw03.CharsParts'. -/
def charsPartsCard : Claim7 := { stood := { row := charsPartsRow, standIns := [], harness := (true, "839631b517b54845ff85f0f2443e0cdf74f3234b015838bacde11b5d2e7d0ffd"), looks := true }, kinds := [], alts := [], laidByText := true, laidKinds := [.data, .data, .data, .data, .sentinel, .sentinel, .pinned], laidTests := true, laidLooks := .later }
def CharsPartsCardSaid : Prop := Claim7.holds Tryz.pinned (.plain (OpenSpec.ofChange charsPartsSpec)) charsPartsCard

/-- THE TIED CARD OF 'soffitlaw03.CharsNumbers'. -/
def charsNumbersCard : Claim7 := { stood := { row := charsNumbersRow, standIns := [], harness := (true, "839631b517b54845ff85f0f2443e0cdf74f3234b015838bacde11b5d2e7d0ffd"), looks := true }, kinds := [], alts := [], laidByText := true, laidKinds := [.data, .data, .data, .data, .sentinel, .sentinel, .pinned], laidTests := true, laidLooks := .later }
def CharsNumbersCardSaid : Prop := Claim7.holds Tryz.pinned (.plain (OpenSpec.ofChange charsNumbersSpec)) charsNumbersCard

/-- THE TIED CARD OF 'soffitlaw05.MarkWrites'. -/
def markWritesCard : Claim7 := { stood := { row := markWritesRow, standIns := [], harness := (true, "839631b517b54845ff85f0f2443e0cdf74f3234b015838bacde11b5d2e7d0ffd"), looks := true }, kinds := [], alts := [], laidByText := true, laidKinds := [.data, .data, .data, .data, .sentinel, .sentinel, .pinned], laidTests := true, laidLooks := .later }
def MarkWritesCardSaid : Prop := Claim7.holds Tryz.pinned (.plain (OpenSpec.ofChange markWritesSpec)) markWritesCard

/-- THE TIED CARD OF 'soffitlaw05.MarkBack'. -/
def markBackCard : Claim7 := { stood := { row := markBackRow, standIns := [], harness := (true, "839631b517b54845ff85f0f2443e0cdf74f3234b015838bacde11b5d2e7d0ffd"), looks := true }, kinds := [], alts := [], laidByText := true, laidKinds := [.data, .data, .data, .data, .sentinel, .sentinel, .pinned], laidTests := true, laidLooks := .later }
def MarkBackCardSaid : Prop := Claim7.holds Tryz.pinned (.plain (OpenSpec.ofChange markBackSpec)) markBackCard

/-- THE TIED CARD OF 'soffitlaw06.TreeWrites'. -/
def treeWritesCard : Claim7 := { stood := { row := treeWritesRow, standIns := [], harness := (true, "839631b517b54845ff85f0f2443e0cdf74f3234b015838bacde11b5d2e7d0ffd"), looks := true }, kinds := [], alts := [], laidByText := true, laidKinds := [.data, .data, .data, .data, .sentinel, .sentinel, .pinned], laidTests := true, laidLooks := .later }
def TreeWritesCardSaid : Prop := Claim7.holds Tryz.pinned (.plain (OpenSpec.ofChange treeWritesSpec)) treeWritesCard

/-- THE TIED CARD OF 'soffitlaw06.TreeDeep'. -/
def treeDeepCard : Claim7 := { stood := { row := treeDeepRow, standIns := [], harness := (true, "839631b517b54845ff85f0f2443e0cdf74f3234b015838bacde11b5d2e7d0ffd"), looks := true }, kinds := [], alts := [], laidByText := true, laidKinds := [.data, .data, .data, .data, .sentinel, .sentinel, .pinned], laidTests := true, laidLooks := .later }
def TreeDeepCardSaid : Prop := Claim7.holds Tryz.pinned (.plain (OpenSpec.ofChange treeDeepSpec)) treeDeepCard

/-- THE TIED CARD OF 'soffitlaw06.TreeBack'. -/
def treeBackCard : Claim7 := { stood := { row := treeBackRow, standIns := [], harness := (true, "839631b517b54845ff85f0f2443e0cdf74f3234b015838bacde11b5d2e7d0ffd"), looks := true }, kinds := [], alts := [], laidByText := true, laidKinds := [.data, .data, .data, .data, .sentinel, .sentinel, .pinned], laidTests := true, laidLooks := .later }
def TreeBackCardSaid : Prop := Claim7.holds Tryz.pinned (.plain (OpenSpec.ofChange treeBackSpec)) treeBackCard

/-- THE TIED CARD OF 'soffitlaw06.TreeOnce'. -/
def treeOnceCard : Claim7 := { stood := { row := treeOnceRow, standIns := [], harness := (true, "839631b517b54845ff85f0f2443e0cdf74f3234b015838bacde11b5d2e7d0ffd"), looks := true }, kinds := [], alts := [], laidByText := true, laidKinds := [.data, .data, .data, .data, .sentinel, .sentinel, .pinned], laidTests := true, laidLooks := .later }
def TreeOnceCardSaid : Prop := Claim7.holds Tryz.pinned (.plain (OpenSpec.ofChange treeOnceSpec)) treeOnceCard

/-- THE TIED CARD OF 'soffitlaw06.TreeFinds'. -/
def treeFindsCard : Claim7 := { stood := { row := treeFindsRow, standIns := [], harness := (true, "839631b517b54845ff85f0f2443e0cdf74f3234b015838bacde11b5d2e7d0ffd"), looks := true }, kinds := [], alts := [], laidByText := true, laidKinds := [.data, .data, .data, .data, .sentinel, .sentinel, .pinned], laidTests := true, laidLooks := .later }
def TreeFindsCardSaid : Prop := Claim7.holds Tryz.pinned (.plain (OpenSpec.ofChange treeFindsSpec)) treeFindsCard

/-- THE SECOND FORM's CARD OF 'soffitlaw03.CharsLook'. -/
def charsLookUptoCard : Claim7 := { stood := { row := charsLookUptoRow, standIns := [], harness := (true, "839631b517b54845ff85f0f2443e0cdf74f3234b015838bacde11b5d2e7d0ffd"), looks := true }, kinds := [], alts := [], laidByText := true, laidKinds := [.data, .data, .data, .data, .sentinel, .sentinel, .pinned], laidTests := true, laidLooks := .later }
def CharsLookUptoCardSaid : Prop := Claim7.holds Tryz.pinned (.plain (OpenSpec.upto charsLookSpec)) charsLookUptoCard

/-- THE SECOND FORM's CARD OF 'soffitlaw03.CharsEscape'. -/
def charsEscapeUptoCard : Claim7 := { stood := { row := charsEscapeUptoRow, standIns := [], harness := (true, "839631b517b54845ff85f0f2443e0cdf74f3234b015838bacde11b5d2e7d0ffd"), looks := true }, kinds := [], alts := [], laidByText := true, laidKinds := [.data, .data, .data, .data, .sentinel, .sentinel, .pinned], laidTests := true, laidLooks := .later }
def CharsEscapeUptoCardSaid : Prop := Claim7.holds Tryz.pinned (.plain (OpenSpec.upto charsEscapeSpec)) charsEscapeUptoCard

/-- THE SECOND FORM's CARD OF 'soffitlaw03.CharsUnescape'. -/
def charsUnescapeUptoCard : Claim7 := { stood := { row := charsUnescapeUptoRow, standIns := [], harness := (true, "839631b517b54845ff85f0f2443e0cdf74f3234b015838bacde11b5d2e7d0ffd"), looks := true }, kinds := [], alts := [], laidByText := true, laidKinds := [.data, .data, .data, .data, .sentinel, .sentinel, .pinned], laidTests := true, laidLooks := .later }
def CharsUnescapeUptoCardSaid : Prop := Claim7.holds Tryz.pinned (.plain (OpenSpec.upto charsUnescapeSpec)) charsUnescapeUptoCard

/-- THE SECOND FORM's CARD OF 'soffitlaw03.CharsBack'. -/
def charsBackUptoCard : Claim7 := { stood := { row := charsBackUptoRow, standIns := [], harness := (true, "839631b517b54845ff85f0f2443e0cdf74f3234b015838bacde11b5d2e7d0ffd"), looks := true }, kinds := [], alts := [], laidByText := true, laidKinds := [.data, .data, .data, .data, .sentinel, .sentinel, .pinned], laidTests := true, laidLooks := .later }
def CharsBackUptoCardSaid : Prop := Claim7.holds Tryz.pinned (.plain (OpenSpec.upto charsBackSpec)) charsBackUptoCard

/-- THE SECOND FORM's CARD OF 'soffitlaw03.CharsParts'. -/
def charsPartsUptoCard : Claim7 := { stood := { row := charsPartsUptoRow, standIns := [], harness := (true, "839631b517b54845ff85f0f2443e0cdf74f3234b015838bacde11b5d2e7d0ffd"), looks := true }, kinds := [], alts := [], laidByText := true, laidKinds := [.data, .data, .data, .data, .sentinel, .sentinel, .pinned], laidTests := true, laidLooks := .later }
def CharsPartsUptoCardSaid : Prop := Claim7.holds Tryz.pinned (.plain (OpenSpec.upto charsPartsSpec)) charsPartsUptoCard

/-- THE SECOND FORM's CARD OF 'soffitlaw03.CharsNumbers'. -/
def charsNumbersUptoCard : Claim7 := { stood := { row := charsNumbersUptoRow, standIns := [], harness := (true, "839631b517b54845ff85f0f2443e0cdf74f3234b015838bacde11b5d2e7d0ffd"), looks := true }, kinds := [], alts := [], laidByText := true, laidKinds := [.data, .data, .data, .data, .sentinel, .sentinel, .pinned], laidTests := true, laidLooks := .later }
def CharsNumbersUptoCardSaid : Prop := Claim7.holds Tryz.pinned (.plain (OpenSpec.upto charsNumbersSpec)) charsNumbersUptoCard

/-- THE SECOND FORM's CARD OF 'soffitlaw05.MarkWrites'. -/
def markWritesUptoCard : Claim7 := { stood := { row := markWritesUptoRow, standIns := [], harness := (true, "839631b517b54845ff85f0f2443e0cdf74f3234b015838bacde11b5d2e7d0ffd"), looks := true }, kinds := [], alts := [], laidByText := true, laidKinds := [.data, .data, .data, .data, .sentinel, .sentinel, .pinned], laidTests := true, laidLooks := .later }
def MarkWritesUptoCardSaid : Prop := Claim7.holds Tryz.pinned (.plain (OpenSpec.upto markWritesSpec)) markWritesUptoCard

/-- THE SECOND FORM's CARD OF 'soffitlaw05.MarkBack'. -/
def markBackUptoCard : Claim7 := { stood := { row := markBackUptoRow, standIns := [], harness := (true, "839631b517b54845ff85f0f2443e0cdf74f3234b015838bacde11b5d2e7d0ffd"), looks := true }, kinds := [], alts := [], laidByText := true, laidKinds := [.data, .data, .data, .data, .sentinel, .sentinel, .pinned], laidTests := true, laidLooks := .later }
def MarkBackUptoCardSaid : Prop := Claim7.holds Tryz.pinned (.plain (OpenSpec.upto markBackSpec)) markBackUptoCard

/-- THE SECOND FORM's CARD OF 'soffitlaw06.TreeWrites'. -/
def treeWritesUptoCard : Claim7 := { stood := { row := treeWritesUptoRow, standIns := [], harness := (true, "839631b517b54845ff85f0f2443e0cdf74f3234b015838bacde11b5d2e7d0ffd"), looks := true }, kinds := [], alts := [], laidByText := true, laidKinds := [.data, .data, .data, .data, .sentinel, .sentinel, .pinned], laidTests := true, laidLooks := .later }
def TreeWritesUptoCardSaid : Prop := Claim7.holds Tryz.pinned (.plain (OpenSpec.upto treeWritesSpec)) treeWritesUptoCard

/-- THE SECOND FORM's CARD OF 'soffitlaw06.TreeDeep'. -/
def treeDeepUptoCard : Claim7 := { stood := { row := treeDeepUptoRow, standIns := [], harness := (true, "839631b517b54845ff85f0f2443e0cdf74f3234b015838bacde11b5d2e7d0ffd"), looks := true }, kinds := [], alts := [], laidByText := true, laidKinds := [.data, .data, .data, .data, .sentinel, .sentinel, .pinned], laidTests := true, laidLooks := .later }
def TreeDeepUptoCardSaid : Prop := Claim7.holds Tryz.pinned (.plain (OpenSpec.upto treeDeepSpec)) treeDeepUptoCard

/-- THE SECOND FORM's CARD OF 'soffitlaw06.TreeBack'. -/
def treeBackUptoCard : Claim7 := { stood := { row := treeBackUptoRow, standIns := [], harness := (true, "839631b517b54845ff85f0f2443e0cdf74f3234b015838bacde11b5d2e7d0ffd"), looks := true }, kinds := [], alts := [], laidByText := true, laidKinds := [.data, .data, .data, .data, .sentinel, .sentinel, .pinned], laidTests := true, laidLooks := .later }
def TreeBackUptoCardSaid : Prop := Claim7.holds Tryz.pinned (.plain (OpenSpec.upto treeBackSpec)) treeBackUptoCard

/-- THE SECOND FORM's CARD OF 'soffitlaw06.TreeOnce'. -/
def treeOnceUptoCard : Claim7 := { stood := { row := treeOnceUptoRow, standIns := [], harness := (true, "839631b517b54845ff85f0f2443e0cdf74f3234b015838bacde11b5d2e7d0ffd"), looks := true }, kinds := [], alts := [], laidByText := true, laidKinds := [.data, .data, .data, .data, .sentinel, .sentinel, .pinned], laidTests := true, laidLooks := .later }
def TreeOnceUptoCardSaid : Prop := Claim7.holds Tryz.pinned (.plain (OpenSpec.upto treeOnceSpec)) treeOnceUptoCard

/-- THE SECOND FORM's CARD OF 'soffitlaw06.TreeFinds'. -/
def treeFindsUptoCard : Claim7 := { stood := { row := treeFindsUptoRow, standIns := [], harness := (true, "839631b517b54845ff85f0f2443e0cdf74f3234b015838bacde11b5d2e7d0ffd"), looks := true }, kinds := [], alts := [], laidByText := true, laidKinds := [.data, .data, .data, .data, .sentinel, .sentinel, .pinned], laidTests := true, laidLooks := .later }
def TreeFindsUptoCardSaid : Prop := Claim7.holds Tryz.pinned (.plain (OpenSpec.upto treeFindsSpec)) treeFindsUptoCard
end Rows
end Go.Proofs.YtcicibeggkmlcaaGreatDoor
