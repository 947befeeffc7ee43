/-
  DERIVED. GIVEN WITH THE SEED: THE CARDS: each row of YtdgapihlgddnjaaDoorRows.lean that lists a variable, with what it lists TIED to the program's text (the seventh form; the later family's looks); each row that meets fmt, with fmt's text TOLD by the authors' own Lean function (tested against real Go, not proved from fmt's source: count such statements apart). THE CARD IS WHAT COUNTS. Prove the row's statement (the work); the ties are given (YtdgapihlgddnjaaDoorTie.lean); close each card by the builder's one call (the guide's Derived/Test/ToyasCard.lean, 'card_holds'). Laid BY PROGRAM, IN A SANDBOX (cutbox-door.mjs). By AI agents, Wed Nov 11 2026. No macro, syntax, notation, axiom, sorry.
-/
import Derived.Test.YtdgapihlgddnjaaDoorRows
import GoSem.ClaimSeven
namespace Go.Proofs.YtdgapihlgddnjaaDoor
namespace Rows

/-- THE TIED CARD OF 'roundtabletop.TopConsensusDefined'. -/
def topConsensusDefinedCard : Claim7 := { stood := { row := topConsensusDefinedRow, standIns := [], harness := (true, "ae1fe29f5833ee784f4ebd79600663083e684307afb4fc7ead7137adc2bc13cc"), looks := false }, kinds := [], alts := [], laidByText := true, laidKinds := [.data], laidTests := true, laidLooks := .later }
def TopConsensusDefinedCardSaid : Prop := Claim7.holds Tryd.pinned (.plain (OpenSpec.ofChange topConsensusDefinedSpec)) topConsensusDefinedCard

/-- THE TIED CARD OF 'roundtabletop.TopStrongerPermits'. -/
def topStrongerPermitsCard : Claim7 := { stood := { row := topStrongerPermitsRow, standIns := [], harness := (true, "ae1fe29f5833ee784f4ebd79600663083e684307afb4fc7ead7137adc2bc13cc"), looks := false }, kinds := [], alts := [], laidByText := true, laidKinds := [.data], laidTests := true, laidLooks := .later }
def TopStrongerPermitsCardSaid : Prop := Claim7.holds Tryd.pinned (.plain (OpenSpec.ofChange topStrongerPermitsSpec)) topStrongerPermitsCard

/-- THE TIED CARD OF 'roundtabletop.TopSchedulesCompared'. -/
def topSchedulesComparedCard : Claim7 := { stood := { row := topSchedulesComparedRow, standIns := [], harness := (true, "ae1fe29f5833ee784f4ebd79600663083e684307afb4fc7ead7137adc2bc13cc"), looks := false }, kinds := [], alts := [], laidByText := true, laidKinds := [.data, .data, .data], laidTests := true, laidLooks := .later }
def TopSchedulesComparedCardSaid : Prop := Claim7.holds Tryd.pinned (.plain (OpenSpec.ofChange topSchedulesComparedSpec)) topSchedulesComparedCard

/-- THE SECOND FORM's CARD OF 'roundtabletop.TopConsensusDefined'. -/
def topConsensusDefinedUptoCard : Claim7 := { stood := { row := topConsensusDefinedUptoRow, standIns := [], harness := (true, "ae1fe29f5833ee784f4ebd79600663083e684307afb4fc7ead7137adc2bc13cc"), looks := false }, kinds := [], alts := [], laidByText := true, laidKinds := [.data], laidTests := true, laidLooks := .later }
def TopConsensusDefinedUptoCardSaid : Prop := Claim7.holds Tryd.pinned (.plain (OpenSpec.upto topConsensusDefinedSpec)) topConsensusDefinedUptoCard

/-- THE SECOND FORM's CARD OF 'roundtabletop.TopStrongerPermits'. -/
def topStrongerPermitsUptoCard : Claim7 := { stood := { row := topStrongerPermitsUptoRow, standIns := [], harness := (true, "ae1fe29f5833ee784f4ebd79600663083e684307afb4fc7ead7137adc2bc13cc"), looks := false }, kinds := [], alts := [], laidByText := true, laidKinds := [.data], laidTests := true, laidLooks := .later }
def TopStrongerPermitsUptoCardSaid : Prop := Claim7.holds Tryd.pinned (.plain (OpenSpec.upto topStrongerPermitsSpec)) topStrongerPermitsUptoCard

/-- THE SECOND FORM's CARD OF 'roundtabletop.TopSchedulesCompared'. -/
def topSchedulesComparedUptoCard : Claim7 := { stood := { row := topSchedulesComparedUptoRow, standIns := [], harness := (true, "ae1fe29f5833ee784f4ebd79600663083e684307afb4fc7ead7137adc2bc13cc"), looks := false }, kinds := [], alts := [], laidByText := true, laidKinds := [.data, .data, .data], laidTests := true, laidLooks := .later }
def TopSchedulesComparedUptoCardSaid : Prop := Claim7.holds Tryd.pinned (.plain (OpenSpec.upto topSchedulesComparedSpec)) topSchedulesComparedUptoCard
end Rows
end Go.Proofs.YtdgapihlgddnjaaDoor
