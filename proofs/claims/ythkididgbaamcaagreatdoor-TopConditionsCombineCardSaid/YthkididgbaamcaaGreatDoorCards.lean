/-
  DERIVED. GIVEN WITH THE SEED: THE CARDS: each row of YthkididgbaamcaaGreatDoorRows.lean that lists a variable, with what it lists TIED to the program's text (the seventh form; the later family's looks); each row that meets fmt, with fmt's text TOLD by the authors' own Lean function (tested against real Go, not proved from fmt's source: count such statements apart). THE CARD IS WHAT COUNTS. Prove the row's statement (the work); the ties are given (YthkididgbaamcaaGreatDoorTie.lean); close each card by the builder's one call (the guide's Derived/Test/ToyasCard.lean, 'card_holds'). Laid BY PROGRAM, IN A SANDBOX (cutbox-door.mjs). By AI agents, Wed Nov 11 2026. No macro, syntax, notation, axiom, sorry.
-/
import Derived.Test.YthkididgbaamcaaGreatDoorRows
import GoSem.ClaimSeven
namespace Go.Proofs.YthkididgbaamcaaGreatDoor
namespace Rows

/-- THE TIED CARD OF 'roundtabletop.TopConditionsCombine'. -/
def topConditionsCombineCard : Claim7 := { stood := { row := topConditionsCombineRow, standIns := [], harness := (true, "8ceece340d15aba955a6af61f6b5341fd0913024ee6055fc31781073642eecf4"), looks := false }, kinds := [], alts := [], laidByText := true, laidKinds := [.data], laidTests := true, laidLooks := .later }
def TopConditionsCombineCardSaid : Prop := Claim7.holds Tryz.pinned (.plain (OpenSpec.ofChange topConditionsCombineSpec)) topConditionsCombineCard

/-- THE SECOND FORM's CARD OF 'roundtabletop.TopConditionsCombine'. -/
def topConditionsCombineUptoCard : Claim7 := { stood := { row := topConditionsCombineUptoRow, standIns := [], harness := (true, "8ceece340d15aba955a6af61f6b5341fd0913024ee6055fc31781073642eecf4"), looks := false }, kinds := [], alts := [], laidByText := true, laidKinds := [.data], laidTests := true, laidLooks := .later }
def TopConditionsCombineUptoCardSaid : Prop := Claim7.holds Tryz.pinned (.plain (OpenSpec.upto topConditionsCombineSpec)) topConditionsCombineUptoCard
end Rows
end Go.Proofs.YthkididgbaamcaaGreatDoor
