/-
  DERIVED. GIVEN WITH THE SEED: THE CARDS: each row of YtdlhnpogddpmpaaDoorRows.lean that lists a variable, with what it lists TIED to the program's text (the seventh form; the later family's looks); each row that meets fmt, with fmt's text TOLD by the authors' own Lean function (tested against real Go, not proved from fmt's source: count such statements apart). THE CARD IS WHAT COUNTS. Prove the row's statement (the work); the ties are given (YtdlhnpogddpmpaaDoorTie.lean); close each card by the builder's one call (the guide's Derived/Test/ToyasCard.lean, 'card_holds'). Laid BY PROGRAM, IN A SANDBOX (cutbox-door.mjs). By AI agents, Wed Nov 11 2026. No macro, syntax, notation, axiom, sorry.
-/
import Derived.Test.YtdlhnpogddpmpaaDoorRows
import GoSem.ClaimSeven
namespace Go.Proofs.YtdlhnpogddpmpaaDoor
namespace Rows

/-- THE TIED CARD OF 'roundtablelaw17.FailureCounts'. -/
def failureCountsCard : Claim7 := { stood := { row := failureCountsRow, standIns := [], harness := (true, "38760540ea06097cc0e4f0d6515b4cbcf8cd50d3dbd40ffb46b54b3567bd95fb"), looks := false }, kinds := [], alts := [], laidByText := true, laidKinds := [.data, .data], laidTests := true, laidLooks := .later }
def FailureCountsCardSaid : Prop := Claim7.holds Tryd.pinned (.plain (OpenSpec.ofChange failureCountsSpec)) failureCountsCard

/-- THE SECOND FORM's CARD OF 'roundtablelaw17.FailureCounts'. -/
def failureCountsUptoCard : Claim7 := { stood := { row := failureCountsUptoRow, standIns := [], harness := (true, "38760540ea06097cc0e4f0d6515b4cbcf8cd50d3dbd40ffb46b54b3567bd95fb"), looks := false }, kinds := [], alts := [], laidByText := true, laidKinds := [.data, .data], laidTests := true, laidLooks := .later }
def FailureCountsUptoCardSaid : Prop := Claim7.holds Tryd.pinned (.plain (OpenSpec.upto failureCountsSpec)) failureCountsUptoCard
end Rows
end Go.Proofs.YtdlhnpogddpmpaaDoor
