/-
  DERIVED. GIVEN WITH THE SEED: THE CARDS: each row of YtpififklhcfcnaaDoorRows.lean that lists a variable, with what it lists TIED to the program's text (the seventh form; the later family's looks); each row that meets fmt, with fmt's text TOLD by the authors' own Lean function (tested against real Go, not proved from fmt's source: count such statements apart). THE CARD IS WHAT COUNTS. Prove the row's statement (the work); the ties are given (YtpififklhcfcnaaDoorTie.lean); close each card by the builder's one call (the guide's Derived/Test/ToyasCard.lean, 'card_holds'). Laid BY PROGRAM, IN A SANDBOX (cutbox-door.mjs). By AI agents, Wed Nov 11 2026. No macro, syntax, notation, axiom, sorry.
-/
import Derived.Test.YtpififklhcfcnaaDoorRows
import GoSem.ClaimSeven
namespace Go.Proofs.YtpififklhcfcnaaDoor
namespace Rows

/-- THE TIED CARD OF 'busbarlaw14.TreeEvalMatchesReference'. -/
def treeEvalMatchesReferenceCard : Claim7 := { stood := { row := treeEvalMatchesReferenceRow, standIns := [], harness := (true, "471ab9bd6edcfd6335b51f2c53630e38b8e419547e49401c32fca935266ec791"), looks := false }, kinds := [], alts := [], laidByText := true, laidKinds := [.data, .data, .data, .data], laidTests := true, laidLooks := .later }
def TreeEvalMatchesReferenceCardSaid : Prop := Claim7.holds Tryd.pinned (.plain (OpenSpec.ofChange treeEvalMatchesReferenceSpec)) treeEvalMatchesReferenceCard

/-- THE TIED CARD OF 'busbarlaw14.TreeEvalIsMonotone'. -/
def treeEvalIsMonotoneCard : Claim7 := { stood := { row := treeEvalIsMonotoneRow, standIns := [], harness := (true, "471ab9bd6edcfd6335b51f2c53630e38b8e419547e49401c32fca935266ec791"), looks := false }, kinds := [], alts := [], laidByText := true, laidKinds := [.data, .data, .data, .data], laidTests := true, laidLooks := .later }
def TreeEvalIsMonotoneCardSaid : Prop := Claim7.holds Tryd.pinned (.plain (OpenSpec.ofChange treeEvalIsMonotoneSpec)) treeEvalIsMonotoneCard

/-- THE TIED CARD OF 'busbarlaw14.TreeComposition'. -/
def treeCompositionCard : Claim7 := { stood := { row := treeCompositionRow, standIns := [], harness := (true, "471ab9bd6edcfd6335b51f2c53630e38b8e419547e49401c32fca935266ec791"), looks := false }, kinds := [], alts := [], laidByText := true, laidKinds := [.data, .data, .data, .data], laidTests := true, laidLooks := .later }
def TreeCompositionCardSaid : Prop := Claim7.holds Tryd.pinned (.plain (OpenSpec.ofChange treeCompositionSpec)) treeCompositionCard

/-- THE TIED CARD OF 'busbarlaw14.TreeDepthBounds'. -/
def treeDepthBoundsCard : Claim7 := { stood := { row := treeDepthBoundsRow, standIns := [], harness := (true, "471ab9bd6edcfd6335b51f2c53630e38b8e419547e49401c32fca935266ec791"), looks := false }, kinds := [], alts := [], laidByText := true, laidKinds := [.data, .data, .data, .data], laidTests := true, laidLooks := .later }
def TreeDepthBoundsCardSaid : Prop := Claim7.holds Tryd.pinned (.plain (OpenSpec.ofChange treeDepthBoundsSpec)) treeDepthBoundsCard

/-- THE TIED CARD OF 'busbarlaw14.TreeCheckMatchesReference'. -/
def treeCheckMatchesReferenceCard : Claim7 := { stood := { row := treeCheckMatchesReferenceRow, standIns := [], harness := (true, "471ab9bd6edcfd6335b51f2c53630e38b8e419547e49401c32fca935266ec791"), looks := false }, kinds := [], alts := [], laidByText := true, laidKinds := [.data, .data, .data, .data], laidTests := true, laidLooks := .later }
def TreeCheckMatchesReferenceCardSaid : Prop := Claim7.holds Tryd.pinned (.plain (OpenSpec.ofChange treeCheckMatchesReferenceSpec)) treeCheckMatchesReferenceCard

/-- THE SECOND FORM's CARD OF 'busbarlaw14.TreeEvalMatchesReference'. -/
def treeEvalMatchesReferenceUptoCard : Claim7 := { stood := { row := treeEvalMatchesReferenceUptoRow, standIns := [], harness := (true, "471ab9bd6edcfd6335b51f2c53630e38b8e419547e49401c32fca935266ec791"), looks := false }, kinds := [], alts := [], laidByText := true, laidKinds := [.data, .data, .data, .data], laidTests := true, laidLooks := .later }
def TreeEvalMatchesReferenceUptoCardSaid : Prop := Claim7.holds Tryd.pinned (.plain (OpenSpec.upto treeEvalMatchesReferenceSpec)) treeEvalMatchesReferenceUptoCard

/-- THE SECOND FORM's CARD OF 'busbarlaw14.TreeEvalIsMonotone'. -/
def treeEvalIsMonotoneUptoCard : Claim7 := { stood := { row := treeEvalIsMonotoneUptoRow, standIns := [], harness := (true, "471ab9bd6edcfd6335b51f2c53630e38b8e419547e49401c32fca935266ec791"), looks := false }, kinds := [], alts := [], laidByText := true, laidKinds := [.data, .data, .data, .data], laidTests := true, laidLooks := .later }
def TreeEvalIsMonotoneUptoCardSaid : Prop := Claim7.holds Tryd.pinned (.plain (OpenSpec.upto treeEvalIsMonotoneSpec)) treeEvalIsMonotoneUptoCard

/-- THE SECOND FORM's CARD OF 'busbarlaw14.TreeComposition'. -/
def treeCompositionUptoCard : Claim7 := { stood := { row := treeCompositionUptoRow, standIns := [], harness := (true, "471ab9bd6edcfd6335b51f2c53630e38b8e419547e49401c32fca935266ec791"), looks := false }, kinds := [], alts := [], laidByText := true, laidKinds := [.data, .data, .data, .data], laidTests := true, laidLooks := .later }
def TreeCompositionUptoCardSaid : Prop := Claim7.holds Tryd.pinned (.plain (OpenSpec.upto treeCompositionSpec)) treeCompositionUptoCard

/-- THE SECOND FORM's CARD OF 'busbarlaw14.TreeDepthBounds'. -/
def treeDepthBoundsUptoCard : Claim7 := { stood := { row := treeDepthBoundsUptoRow, standIns := [], harness := (true, "471ab9bd6edcfd6335b51f2c53630e38b8e419547e49401c32fca935266ec791"), looks := false }, kinds := [], alts := [], laidByText := true, laidKinds := [.data, .data, .data, .data], laidTests := true, laidLooks := .later }
def TreeDepthBoundsUptoCardSaid : Prop := Claim7.holds Tryd.pinned (.plain (OpenSpec.upto treeDepthBoundsSpec)) treeDepthBoundsUptoCard

/-- THE SECOND FORM's CARD OF 'busbarlaw14.TreeCheckMatchesReference'. -/
def treeCheckMatchesReferenceUptoCard : Claim7 := { stood := { row := treeCheckMatchesReferenceUptoRow, standIns := [], harness := (true, "471ab9bd6edcfd6335b51f2c53630e38b8e419547e49401c32fca935266ec791"), looks := false }, kinds := [], alts := [], laidByText := true, laidKinds := [.data, .data, .data, .data], laidTests := true, laidLooks := .later }
def TreeCheckMatchesReferenceUptoCardSaid : Prop := Claim7.holds Tryd.pinned (.plain (OpenSpec.upto treeCheckMatchesReferenceSpec)) treeCheckMatchesReferenceUptoCard
end Rows
end Go.Proofs.YtpififklhcfcnaaDoor
