/-
  DERIVED. GIVEN WITH THE SEED: THE CARDS: each row of YtfnhjalnbmnlaaaDoorRows.lean that lists a variable, with what it lists TIED to the program's text (the seventh form; the later family's looks); each row that meets fmt, with fmt's text TOLD by the authors' own Lean function (tested against real Go, not proved from fmt's source: count such statements apart). THE CARD IS WHAT COUNTS. Prove the row's statement (the work); the ties are given (YtfnhjalnbmnlaaaDoorTie.lean); close each card by the builder's one call (the guide's Derived/Test/ToyasCard.lean, 'card_holds'). Laid BY PROGRAM, IN A SANDBOX (cutbox-door.mjs). By AI agents, Wed Nov 11 2026. No macro, syntax, notation, axiom, sorry.
-/
import Derived.Test.YtfnhjalnbmnlaaaDoorRows
import GoSem.ClaimSeven
namespace Go.Proofs.YtfnhjalnbmnlaaaDoor
namespace Rows

/-- THE TIED CARD OF 'roundtablelaw15.RoundPermutes'. -/
def roundPermutesCard : Claim7 := { stood := { row := roundPermutesRow, standIns := [], harness := (true, "e841cc72acd85af8faff0d250df1ee8d10c8fae058abf4e47e5a21123d0eb2dc"), looks := false }, kinds := [], alts := [], laidByText := true, laidKinds := [.data, .data, .data, .pinned], laidTests := true, laidLooks := .later }
def RoundPermutesCardSaid : Prop := Claim7.holds Tryd.pinned (.plain (OpenSpec.ofChange roundPermutesSpec)) roundPermutesCard

/-- THE TIED CARD OF 'roundtablelaw15.RoundEnds'. -/
def roundEndsCard : Claim7 := { stood := { row := roundEndsRow, standIns := [], harness := (true, "e841cc72acd85af8faff0d250df1ee8d10c8fae058abf4e47e5a21123d0eb2dc"), looks := false }, kinds := [], alts := [], laidByText := true, laidKinds := [.data, .data, .data, .pinned], laidTests := true, laidLooks := .later }
def RoundEndsCardSaid : Prop := Claim7.holds Tryd.pinned (.plain (OpenSpec.ofChange roundEndsSpec)) roundEndsCard

/-- THE TIED CARD OF 'roundtablelaw15.RoundReads'. -/
def roundReadsCard : Claim7 := { stood := { row := roundReadsRow, standIns := [], harness := (true, "e841cc72acd85af8faff0d250df1ee8d10c8fae058abf4e47e5a21123d0eb2dc"), looks := false }, kinds := [], alts := [], laidByText := true, laidKinds := [.data, .data, .data, .pinned], laidTests := true, laidLooks := .later }
def RoundReadsCardSaid : Prop := Claim7.holds Tryd.pinned (.plain (OpenSpec.ofChange roundReadsSpec)) roundReadsCard

/-- THE TIED CARD OF 'roundtablelaw15.RoundJoins'. -/
def roundJoinsCard : Claim7 := { stood := { row := roundJoinsRow, standIns := [], harness := (true, "e841cc72acd85af8faff0d250df1ee8d10c8fae058abf4e47e5a21123d0eb2dc"), looks := false }, kinds := [], alts := [], laidByText := true, laidKinds := [.data, .data, .data, .pinned], laidTests := true, laidLooks := .later }
def RoundJoinsCardSaid : Prop := Claim7.holds Tryd.pinned (.plain (OpenSpec.ofChange roundJoinsSpec)) roundJoinsCard

/-- THE TIED CARD OF 'roundtablelaw15.RoundReturns'. -/
def roundReturnsCard : Claim7 := { stood := { row := roundReturnsRow, standIns := [], harness := (true, "e841cc72acd85af8faff0d250df1ee8d10c8fae058abf4e47e5a21123d0eb2dc"), looks := false }, kinds := [], alts := [], laidByText := true, laidKinds := [.data, .data, .data, .pinned], laidTests := true, laidLooks := .later }
def RoundReturnsCardSaid : Prop := Claim7.holds Tryd.pinned (.plain (OpenSpec.ofChange roundReturnsSpec)) roundReturnsCard

/-- THE TIED CARD OF 'roundtablelaw15.RoundRenames'. -/
def roundRenamesCard : Claim7 := { stood := { row := roundRenamesRow, standIns := [], harness := (true, "e841cc72acd85af8faff0d250df1ee8d10c8fae058abf4e47e5a21123d0eb2dc"), looks := false }, kinds := [], alts := [], laidByText := true, laidKinds := [.data, .data, .data, .pinned], laidTests := true, laidLooks := .later }
def RoundRenamesCardSaid : Prop := Claim7.holds Tryd.pinned (.plain (OpenSpec.ofChange roundRenamesSpec)) roundRenamesCard

/-- THE TIED CARD OF 'roundtablelaw15.RoundChecks'. -/
def roundChecksCard : Claim7 := { stood := { row := roundChecksRow, standIns := [], harness := (true, "e841cc72acd85af8faff0d250df1ee8d10c8fae058abf4e47e5a21123d0eb2dc"), looks := false }, kinds := [], alts := [], laidByText := true, laidKinds := [.data, .data, .data, .pinned], laidTests := true, laidLooks := .later }
def RoundChecksCardSaid : Prop := Claim7.holds Tryd.pinned (.plain (OpenSpec.ofChange roundChecksSpec)) roundChecksCard

/-- THE TIED CARD OF 'roundtablelaw15.RoundOrders'. -/
def roundOrdersCard : Claim7 := { stood := { row := roundOrdersRow, standIns := [], harness := (true, "e841cc72acd85af8faff0d250df1ee8d10c8fae058abf4e47e5a21123d0eb2dc"), looks := false }, kinds := [], alts := [], laidByText := true, laidKinds := [.data, .data, .data, .pinned], laidTests := true, laidLooks := .later }
def RoundOrdersCardSaid : Prop := Claim7.holds Tryd.pinned (.plain (OpenSpec.ofChange roundOrdersSpec)) roundOrdersCard

/-- THE SECOND FORM's CARD OF 'roundtablelaw15.RoundPermutes'. -/
def roundPermutesUptoCard : Claim7 := { stood := { row := roundPermutesUptoRow, standIns := [], harness := (true, "e841cc72acd85af8faff0d250df1ee8d10c8fae058abf4e47e5a21123d0eb2dc"), looks := false }, kinds := [], alts := [], laidByText := true, laidKinds := [.data, .data, .data, .pinned], laidTests := true, laidLooks := .later }
def RoundPermutesUptoCardSaid : Prop := Claim7.holds Tryd.pinned (.plain (OpenSpec.upto roundPermutesSpec)) roundPermutesUptoCard

/-- THE SECOND FORM's CARD OF 'roundtablelaw15.RoundEnds'. -/
def roundEndsUptoCard : Claim7 := { stood := { row := roundEndsUptoRow, standIns := [], harness := (true, "e841cc72acd85af8faff0d250df1ee8d10c8fae058abf4e47e5a21123d0eb2dc"), looks := false }, kinds := [], alts := [], laidByText := true, laidKinds := [.data, .data, .data, .pinned], laidTests := true, laidLooks := .later }
def RoundEndsUptoCardSaid : Prop := Claim7.holds Tryd.pinned (.plain (OpenSpec.upto roundEndsSpec)) roundEndsUptoCard

/-- THE SECOND FORM's CARD OF 'roundtablelaw15.RoundReads'. -/
def roundReadsUptoCard : Claim7 := { stood := { row := roundReadsUptoRow, standIns := [], harness := (true, "e841cc72acd85af8faff0d250df1ee8d10c8fae058abf4e47e5a21123d0eb2dc"), looks := false }, kinds := [], alts := [], laidByText := true, laidKinds := [.data, .data, .data, .pinned], laidTests := true, laidLooks := .later }
def RoundReadsUptoCardSaid : Prop := Claim7.holds Tryd.pinned (.plain (OpenSpec.upto roundReadsSpec)) roundReadsUptoCard

/-- THE SECOND FORM's CARD OF 'roundtablelaw15.RoundJoins'. -/
def roundJoinsUptoCard : Claim7 := { stood := { row := roundJoinsUptoRow, standIns := [], harness := (true, "e841cc72acd85af8faff0d250df1ee8d10c8fae058abf4e47e5a21123d0eb2dc"), looks := false }, kinds := [], alts := [], laidByText := true, laidKinds := [.data, .data, .data, .pinned], laidTests := true, laidLooks := .later }
def RoundJoinsUptoCardSaid : Prop := Claim7.holds Tryd.pinned (.plain (OpenSpec.upto roundJoinsSpec)) roundJoinsUptoCard

/-- THE SECOND FORM's CARD OF 'roundtablelaw15.RoundReturns'. -/
def roundReturnsUptoCard : Claim7 := { stood := { row := roundReturnsUptoRow, standIns := [], harness := (true, "e841cc72acd85af8faff0d250df1ee8d10c8fae058abf4e47e5a21123d0eb2dc"), looks := false }, kinds := [], alts := [], laidByText := true, laidKinds := [.data, .data, .data, .pinned], laidTests := true, laidLooks := .later }
def RoundReturnsUptoCardSaid : Prop := Claim7.holds Tryd.pinned (.plain (OpenSpec.upto roundReturnsSpec)) roundReturnsUptoCard

/-- THE SECOND FORM's CARD OF 'roundtablelaw15.RoundRenames'. -/
def roundRenamesUptoCard : Claim7 := { stood := { row := roundRenamesUptoRow, standIns := [], harness := (true, "e841cc72acd85af8faff0d250df1ee8d10c8fae058abf4e47e5a21123d0eb2dc"), looks := false }, kinds := [], alts := [], laidByText := true, laidKinds := [.data, .data, .data, .pinned], laidTests := true, laidLooks := .later }
def RoundRenamesUptoCardSaid : Prop := Claim7.holds Tryd.pinned (.plain (OpenSpec.upto roundRenamesSpec)) roundRenamesUptoCard

/-- THE SECOND FORM's CARD OF 'roundtablelaw15.RoundChecks'. -/
def roundChecksUptoCard : Claim7 := { stood := { row := roundChecksUptoRow, standIns := [], harness := (true, "e841cc72acd85af8faff0d250df1ee8d10c8fae058abf4e47e5a21123d0eb2dc"), looks := false }, kinds := [], alts := [], laidByText := true, laidKinds := [.data, .data, .data, .pinned], laidTests := true, laidLooks := .later }
def RoundChecksUptoCardSaid : Prop := Claim7.holds Tryd.pinned (.plain (OpenSpec.upto roundChecksSpec)) roundChecksUptoCard

/-- THE SECOND FORM's CARD OF 'roundtablelaw15.RoundOrders'. -/
def roundOrdersUptoCard : Claim7 := { stood := { row := roundOrdersUptoRow, standIns := [], harness := (true, "e841cc72acd85af8faff0d250df1ee8d10c8fae058abf4e47e5a21123d0eb2dc"), looks := false }, kinds := [], alts := [], laidByText := true, laidKinds := [.data, .data, .data, .pinned], laidTests := true, laidLooks := .later }
def RoundOrdersUptoCardSaid : Prop := Claim7.holds Tryd.pinned (.plain (OpenSpec.upto roundOrdersSpec)) roundOrdersUptoCard
end Rows
end Go.Proofs.YtfnhjalnbmnlaaaDoor
