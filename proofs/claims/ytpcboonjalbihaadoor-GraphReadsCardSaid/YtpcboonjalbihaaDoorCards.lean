/-
  DERIVED. GIVEN WITH THE SEED: THE CARDS: each row of YtpcboonjalbihaaDoorRows.lean that lists a variable, with what it lists TIED to the program's text (the seventh form; the later family's looks); each row that meets fmt, with fmt's text TOLD by the authors' own Lean function (tested against real Go, not proved from fmt's source: count such statements apart). THE CARD IS WHAT COUNTS. Prove the row's statement (the work); the ties are given (YtpcboonjalbihaaDoorTie.lean); close each card by the builder's one call (the guide's Derived/Test/ToyasCard.lean, 'card_holds'). Laid BY PROGRAM, IN A SANDBOX (cutbox-door.mjs). By AI agents, Wed Nov 11 2026. No macro, syntax, notation, axiom, sorry.
-/
import Derived.Test.YtpcboonjalbihaaDoorRows
import GoSem.ClaimSeven
namespace Go.Proofs.YtpcboonjalbihaaDoor
namespace Rows

/-- THE TIED CARD OF 'roundtablelaw03.GraphPermutes'. -/
def graphPermutesCard : Claim7 := { stood := { row := graphPermutesRow, standIns := [], harness := (true, "faad83cdcb19b406747721c3c838e7cf6d25d809e9a9a294fb687ac3eced0fb8"), looks := false }, kinds := [], alts := [], laidByText := true, laidKinds := [.data, .data, .data, .pinned], laidTests := true, laidLooks := .later }
def GraphPermutesCardSaid : Prop := Claim7.holds Tryd.pinned (.plain (OpenSpec.ofChange graphPermutesSpec)) graphPermutesCard

/-- THE TIED CARD OF 'roundtablelaw03.GraphRenames'. -/
def graphRenamesCard : Claim7 := { stood := { row := graphRenamesRow, standIns := [], harness := (true, "faad83cdcb19b406747721c3c838e7cf6d25d809e9a9a294fb687ac3eced0fb8"), looks := false }, kinds := [], alts := [], laidByText := true, laidKinds := [.data, .data, .data, .pinned], laidTests := true, laidLooks := .later }
def GraphRenamesCardSaid : Prop := Claim7.holds Tryd.pinned (.plain (OpenSpec.ofChange graphRenamesSpec)) graphRenamesCard

/-- THE TIED CARD OF 'roundtablelaw03.GraphComposes'. -/
def graphComposesCard : Claim7 := { stood := { row := graphComposesRow, standIns := [], harness := (true, "faad83cdcb19b406747721c3c838e7cf6d25d809e9a9a294fb687ac3eced0fb8"), looks := false }, kinds := [], alts := [], laidByText := true, laidKinds := [.data, .data, .data, .pinned], laidTests := true, laidLooks := .later }
def GraphComposesCardSaid : Prop := Claim7.holds Tryd.pinned (.plain (OpenSpec.ofChange graphComposesSpec)) graphComposesCard

/-- THE TIED CARD OF 'roundtablelaw03.GraphAssociates'. -/
def graphAssociatesCard : Claim7 := { stood := { row := graphAssociatesRow, standIns := [], harness := (true, "faad83cdcb19b406747721c3c838e7cf6d25d809e9a9a294fb687ac3eced0fb8"), looks := false }, kinds := [], alts := [], laidByText := true, laidKinds := [.data, .data, .data, .pinned], laidTests := true, laidLooks := .later }
def GraphAssociatesCardSaid : Prop := Claim7.holds Tryd.pinned (.plain (OpenSpec.ofChange graphAssociatesSpec)) graphAssociatesCard

/-- THE TIED CARD OF 'roundtablelaw03.GraphReads'. -/
def graphReadsCard : Claim7 := { stood := { row := graphReadsRow, standIns := [], harness := (true, "faad83cdcb19b406747721c3c838e7cf6d25d809e9a9a294fb687ac3eced0fb8"), looks := false }, kinds := [], alts := [], laidByText := true, laidKinds := [.data, .data, .data, .pinned], laidTests := true, laidLooks := .later }
def GraphReadsCardSaid : Prop := Claim7.holds Tryd.pinned (.plain (OpenSpec.ofChange graphReadsSpec)) graphReadsCard

/-- THE TIED CARD OF 'roundtablelaw03.GraphRoots'. -/
def graphRootsCard : Claim7 := { stood := { row := graphRootsRow, standIns := [], harness := (true, "faad83cdcb19b406747721c3c838e7cf6d25d809e9a9a294fb687ac3eced0fb8"), looks := false }, kinds := [], alts := [], laidByText := true, laidKinds := [.data, .data, .data, .pinned], laidTests := true, laidLooks := .later }
def GraphRootsCardSaid : Prop := Claim7.holds Tryd.pinned (.plain (OpenSpec.ofChange graphRootsSpec)) graphRootsCard

/-- THE TIED CARD OF 'roundtablelaw03.GraphMeasures'. -/
def graphMeasuresCard : Claim7 := { stood := { row := graphMeasuresRow, standIns := [], harness := (true, "faad83cdcb19b406747721c3c838e7cf6d25d809e9a9a294fb687ac3eced0fb8"), looks := false }, kinds := [], alts := [], laidByText := true, laidKinds := [.data, .data, .data, .pinned], laidTests := true, laidLooks := .later }
def GraphMeasuresCardSaid : Prop := Claim7.holds Tryd.pinned (.plain (OpenSpec.ofChange graphMeasuresSpec)) graphMeasuresCard

/-- THE TIED CARD OF 'roundtablelaw03.GraphChecks'. -/
def graphChecksCard : Claim7 := { stood := { row := graphChecksRow, standIns := [], harness := (true, "faad83cdcb19b406747721c3c838e7cf6d25d809e9a9a294fb687ac3eced0fb8"), looks := false }, kinds := [], alts := [], laidByText := true, laidKinds := [.data, .data, .data, .pinned], laidTests := true, laidLooks := .later }
def GraphChecksCardSaid : Prop := Claim7.holds Tryd.pinned (.plain (OpenSpec.ofChange graphChecksSpec)) graphChecksCard

/-- THE TIED CARD OF 'roundtablelaw03.GraphOrders'. -/
def graphOrdersCard : Claim7 := { stood := { row := graphOrdersRow, standIns := [], harness := (true, "faad83cdcb19b406747721c3c838e7cf6d25d809e9a9a294fb687ac3eced0fb8"), looks := false }, kinds := [], alts := [], laidByText := true, laidKinds := [.data, .data, .data, .pinned], laidTests := true, laidLooks := .later }
def GraphOrdersCardSaid : Prop := Claim7.holds Tryd.pinned (.plain (OpenSpec.ofChange graphOrdersSpec)) graphOrdersCard

/-- THE SECOND FORM's CARD OF 'roundtablelaw03.GraphPermutes'. -/
def graphPermutesUptoCard : Claim7 := { stood := { row := graphPermutesUptoRow, standIns := [], harness := (true, "faad83cdcb19b406747721c3c838e7cf6d25d809e9a9a294fb687ac3eced0fb8"), looks := false }, kinds := [], alts := [], laidByText := true, laidKinds := [.data, .data, .data, .pinned], laidTests := true, laidLooks := .later }
def GraphPermutesUptoCardSaid : Prop := Claim7.holds Tryd.pinned (.plain (OpenSpec.upto graphPermutesSpec)) graphPermutesUptoCard

/-- THE SECOND FORM's CARD OF 'roundtablelaw03.GraphRenames'. -/
def graphRenamesUptoCard : Claim7 := { stood := { row := graphRenamesUptoRow, standIns := [], harness := (true, "faad83cdcb19b406747721c3c838e7cf6d25d809e9a9a294fb687ac3eced0fb8"), looks := false }, kinds := [], alts := [], laidByText := true, laidKinds := [.data, .data, .data, .pinned], laidTests := true, laidLooks := .later }
def GraphRenamesUptoCardSaid : Prop := Claim7.holds Tryd.pinned (.plain (OpenSpec.upto graphRenamesSpec)) graphRenamesUptoCard

/-- THE SECOND FORM's CARD OF 'roundtablelaw03.GraphComposes'. -/
def graphComposesUptoCard : Claim7 := { stood := { row := graphComposesUptoRow, standIns := [], harness := (true, "faad83cdcb19b406747721c3c838e7cf6d25d809e9a9a294fb687ac3eced0fb8"), looks := false }, kinds := [], alts := [], laidByText := true, laidKinds := [.data, .data, .data, .pinned], laidTests := true, laidLooks := .later }
def GraphComposesUptoCardSaid : Prop := Claim7.holds Tryd.pinned (.plain (OpenSpec.upto graphComposesSpec)) graphComposesUptoCard

/-- THE SECOND FORM's CARD OF 'roundtablelaw03.GraphAssociates'. -/
def graphAssociatesUptoCard : Claim7 := { stood := { row := graphAssociatesUptoRow, standIns := [], harness := (true, "faad83cdcb19b406747721c3c838e7cf6d25d809e9a9a294fb687ac3eced0fb8"), looks := false }, kinds := [], alts := [], laidByText := true, laidKinds := [.data, .data, .data, .pinned], laidTests := true, laidLooks := .later }
def GraphAssociatesUptoCardSaid : Prop := Claim7.holds Tryd.pinned (.plain (OpenSpec.upto graphAssociatesSpec)) graphAssociatesUptoCard

/-- THE SECOND FORM's CARD OF 'roundtablelaw03.GraphReads'. -/
def graphReadsUptoCard : Claim7 := { stood := { row := graphReadsUptoRow, standIns := [], harness := (true, "faad83cdcb19b406747721c3c838e7cf6d25d809e9a9a294fb687ac3eced0fb8"), looks := false }, kinds := [], alts := [], laidByText := true, laidKinds := [.data, .data, .data, .pinned], laidTests := true, laidLooks := .later }
def GraphReadsUptoCardSaid : Prop := Claim7.holds Tryd.pinned (.plain (OpenSpec.upto graphReadsSpec)) graphReadsUptoCard

/-- THE SECOND FORM's CARD OF 'roundtablelaw03.GraphRoots'. -/
def graphRootsUptoCard : Claim7 := { stood := { row := graphRootsUptoRow, standIns := [], harness := (true, "faad83cdcb19b406747721c3c838e7cf6d25d809e9a9a294fb687ac3eced0fb8"), looks := false }, kinds := [], alts := [], laidByText := true, laidKinds := [.data, .data, .data, .pinned], laidTests := true, laidLooks := .later }
def GraphRootsUptoCardSaid : Prop := Claim7.holds Tryd.pinned (.plain (OpenSpec.upto graphRootsSpec)) graphRootsUptoCard

/-- THE SECOND FORM's CARD OF 'roundtablelaw03.GraphMeasures'. -/
def graphMeasuresUptoCard : Claim7 := { stood := { row := graphMeasuresUptoRow, standIns := [], harness := (true, "faad83cdcb19b406747721c3c838e7cf6d25d809e9a9a294fb687ac3eced0fb8"), looks := false }, kinds := [], alts := [], laidByText := true, laidKinds := [.data, .data, .data, .pinned], laidTests := true, laidLooks := .later }
def GraphMeasuresUptoCardSaid : Prop := Claim7.holds Tryd.pinned (.plain (OpenSpec.upto graphMeasuresSpec)) graphMeasuresUptoCard

/-- THE SECOND FORM's CARD OF 'roundtablelaw03.GraphChecks'. -/
def graphChecksUptoCard : Claim7 := { stood := { row := graphChecksUptoRow, standIns := [], harness := (true, "faad83cdcb19b406747721c3c838e7cf6d25d809e9a9a294fb687ac3eced0fb8"), looks := false }, kinds := [], alts := [], laidByText := true, laidKinds := [.data, .data, .data, .pinned], laidTests := true, laidLooks := .later }
def GraphChecksUptoCardSaid : Prop := Claim7.holds Tryd.pinned (.plain (OpenSpec.upto graphChecksSpec)) graphChecksUptoCard

/-- THE SECOND FORM's CARD OF 'roundtablelaw03.GraphOrders'. -/
def graphOrdersUptoCard : Claim7 := { stood := { row := graphOrdersUptoRow, standIns := [], harness := (true, "faad83cdcb19b406747721c3c838e7cf6d25d809e9a9a294fb687ac3eced0fb8"), looks := false }, kinds := [], alts := [], laidByText := true, laidKinds := [.data, .data, .data, .pinned], laidTests := true, laidLooks := .later }
def GraphOrdersUptoCardSaid : Prop := Claim7.holds Tryd.pinned (.plain (OpenSpec.upto graphOrdersSpec)) graphOrdersUptoCard
end Rows
end Go.Proofs.YtpcboonjalbihaaDoor
