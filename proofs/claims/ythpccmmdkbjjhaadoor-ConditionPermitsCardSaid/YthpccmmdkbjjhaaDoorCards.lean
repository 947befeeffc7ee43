/-
  DERIVED. GIVEN WITH THE SEED: THE CARDS: each row of YthpccmmdkbjjhaaDoorRows.lean that lists a variable, with what it lists TIED to the program's text (the seventh form; the later family's looks); each row that meets fmt, with fmt's text TOLD by the authors' own Lean function (tested against real Go, not proved from fmt's source: count such statements apart). THE CARD IS WHAT COUNTS. Prove the row's statement (the work); the ties are given (YthpccmmdkbjjhaaDoorTie.lean); close each card by the builder's one call (the guide's Derived/Test/ToyasCard.lean, 'card_holds'). Laid BY PROGRAM, IN A SANDBOX (cutbox-door.mjs). By AI agents, Wed Nov 11 2026. No macro, syntax, notation, axiom, sorry.
-/
import Derived.Test.YthpccmmdkbjjhaaDoorRows
import GoSem.ClaimSeven
namespace Go.Proofs.YthpccmmdkbjjhaaDoor
namespace Rows

/-- THE TIED CARD OF 'roundtablelaw13.ConditionInputs'. -/
def conditionInputsCard : Claim7 := { stood := { row := conditionInputsRow, standIns := [], harness := (true, "69a95155fdc3e59ef8d68aa0876adb06ac86ea768442148d64cf2068f8c20d57"), looks := false }, kinds := [], alts := [], laidByText := true, laidKinds := [.data], laidTests := true, laidLooks := .later }
def ConditionInputsCardSaid : Prop := Claim7.holds Tryd.pinned (.plain (OpenSpec.ofChange conditionInputsSpec)) conditionInputsCard

/-- THE TIED CARD OF 'roundtablelaw13.ConditionOutputs'. -/
def conditionOutputsCard : Claim7 := { stood := { row := conditionOutputsRow, standIns := [], harness := (true, "69a95155fdc3e59ef8d68aa0876adb06ac86ea768442148d64cf2068f8c20d57"), looks := false }, kinds := [], alts := [], laidByText := true, laidKinds := [.data], laidTests := true, laidLooks := .later }
def ConditionOutputsCardSaid : Prop := Claim7.holds Tryd.pinned (.plain (OpenSpec.ofChange conditionOutputsSpec)) conditionOutputsCard

/-- THE TIED CARD OF 'roundtablelaw13.ConditionTasks'. -/
def conditionTasksCard : Claim7 := { stood := { row := conditionTasksRow, standIns := [], harness := (true, "69a95155fdc3e59ef8d68aa0876adb06ac86ea768442148d64cf2068f8c20d57"), looks := false }, kinds := [], alts := [], laidByText := true, laidKinds := [.data], laidTests := true, laidLooks := .later }
def ConditionTasksCardSaid : Prop := Claim7.holds Tryd.pinned (.plain (OpenSpec.ofChange conditionTasksSpec)) conditionTasksCard

/-- THE TIED CARD OF 'roundtablelaw13.ConditionGraphs'. -/
def conditionGraphsCard : Claim7 := { stood := { row := conditionGraphsRow, standIns := [], harness := (true, "69a95155fdc3e59ef8d68aa0876adb06ac86ea768442148d64cf2068f8c20d57"), looks := false }, kinds := [], alts := [], laidByText := true, laidKinds := [.data], laidTests := true, laidLooks := .later }
def ConditionGraphsCardSaid : Prop := Claim7.holds Tryd.pinned (.plain (OpenSpec.ofChange conditionGraphsSpec)) conditionGraphsCard

/-- THE TIED CARD OF 'roundtablelaw13.ConditionCombines'. -/
def conditionCombinesCard : Claim7 := { stood := { row := conditionCombinesRow, standIns := [], harness := (true, "69a95155fdc3e59ef8d68aa0876adb06ac86ea768442148d64cf2068f8c20d57"), looks := false }, kinds := [], alts := [], laidByText := true, laidKinds := [.data], laidTests := true, laidLooks := .later }
def ConditionCombinesCardSaid : Prop := Claim7.holds Tryd.pinned (.plain (OpenSpec.ofChange conditionCombinesSpec)) conditionCombinesCard

/-- THE TIED CARD OF 'roundtablelaw13.ConditionDivides'. -/
def conditionDividesCard : Claim7 := { stood := { row := conditionDividesRow, standIns := [], harness := (true, "69a95155fdc3e59ef8d68aa0876adb06ac86ea768442148d64cf2068f8c20d57"), looks := false }, kinds := [], alts := [], laidByText := true, laidKinds := [.data], laidTests := true, laidLooks := .later }
def ConditionDividesCardSaid : Prop := Claim7.holds Tryd.pinned (.plain (OpenSpec.ofChange conditionDividesSpec)) conditionDividesCard

/-- THE TIED CARD OF 'roundtablelaw13.ConditionPermits'. -/
def conditionPermitsCard : Claim7 := { stood := { row := conditionPermitsRow, standIns := [], harness := (true, "69a95155fdc3e59ef8d68aa0876adb06ac86ea768442148d64cf2068f8c20d57"), looks := false }, kinds := [], alts := [], laidByText := true, laidKinds := [.data], laidTests := true, laidLooks := .later }
def ConditionPermitsCardSaid : Prop := Claim7.holds Tryd.pinned (.plain (OpenSpec.ofChange conditionPermitsSpec)) conditionPermitsCard

/-- THE SECOND FORM's CARD OF 'roundtablelaw13.ConditionInputs'. -/
def conditionInputsUptoCard : Claim7 := { stood := { row := conditionInputsUptoRow, standIns := [], harness := (true, "69a95155fdc3e59ef8d68aa0876adb06ac86ea768442148d64cf2068f8c20d57"), looks := false }, kinds := [], alts := [], laidByText := true, laidKinds := [.data], laidTests := true, laidLooks := .later }
def ConditionInputsUptoCardSaid : Prop := Claim7.holds Tryd.pinned (.plain (OpenSpec.upto conditionInputsSpec)) conditionInputsUptoCard

/-- THE SECOND FORM's CARD OF 'roundtablelaw13.ConditionOutputs'. -/
def conditionOutputsUptoCard : Claim7 := { stood := { row := conditionOutputsUptoRow, standIns := [], harness := (true, "69a95155fdc3e59ef8d68aa0876adb06ac86ea768442148d64cf2068f8c20d57"), looks := false }, kinds := [], alts := [], laidByText := true, laidKinds := [.data], laidTests := true, laidLooks := .later }
def ConditionOutputsUptoCardSaid : Prop := Claim7.holds Tryd.pinned (.plain (OpenSpec.upto conditionOutputsSpec)) conditionOutputsUptoCard

/-- THE SECOND FORM's CARD OF 'roundtablelaw13.ConditionTasks'. -/
def conditionTasksUptoCard : Claim7 := { stood := { row := conditionTasksUptoRow, standIns := [], harness := (true, "69a95155fdc3e59ef8d68aa0876adb06ac86ea768442148d64cf2068f8c20d57"), looks := false }, kinds := [], alts := [], laidByText := true, laidKinds := [.data], laidTests := true, laidLooks := .later }
def ConditionTasksUptoCardSaid : Prop := Claim7.holds Tryd.pinned (.plain (OpenSpec.upto conditionTasksSpec)) conditionTasksUptoCard

/-- THE SECOND FORM's CARD OF 'roundtablelaw13.ConditionGraphs'. -/
def conditionGraphsUptoCard : Claim7 := { stood := { row := conditionGraphsUptoRow, standIns := [], harness := (true, "69a95155fdc3e59ef8d68aa0876adb06ac86ea768442148d64cf2068f8c20d57"), looks := false }, kinds := [], alts := [], laidByText := true, laidKinds := [.data], laidTests := true, laidLooks := .later }
def ConditionGraphsUptoCardSaid : Prop := Claim7.holds Tryd.pinned (.plain (OpenSpec.upto conditionGraphsSpec)) conditionGraphsUptoCard

/-- THE SECOND FORM's CARD OF 'roundtablelaw13.ConditionCombines'. -/
def conditionCombinesUptoCard : Claim7 := { stood := { row := conditionCombinesUptoRow, standIns := [], harness := (true, "69a95155fdc3e59ef8d68aa0876adb06ac86ea768442148d64cf2068f8c20d57"), looks := false }, kinds := [], alts := [], laidByText := true, laidKinds := [.data], laidTests := true, laidLooks := .later }
def ConditionCombinesUptoCardSaid : Prop := Claim7.holds Tryd.pinned (.plain (OpenSpec.upto conditionCombinesSpec)) conditionCombinesUptoCard

/-- THE SECOND FORM's CARD OF 'roundtablelaw13.ConditionDivides'. -/
def conditionDividesUptoCard : Claim7 := { stood := { row := conditionDividesUptoRow, standIns := [], harness := (true, "69a95155fdc3e59ef8d68aa0876adb06ac86ea768442148d64cf2068f8c20d57"), looks := false }, kinds := [], alts := [], laidByText := true, laidKinds := [.data], laidTests := true, laidLooks := .later }
def ConditionDividesUptoCardSaid : Prop := Claim7.holds Tryd.pinned (.plain (OpenSpec.upto conditionDividesSpec)) conditionDividesUptoCard

/-- THE SECOND FORM's CARD OF 'roundtablelaw13.ConditionPermits'. -/
def conditionPermitsUptoCard : Claim7 := { stood := { row := conditionPermitsUptoRow, standIns := [], harness := (true, "69a95155fdc3e59ef8d68aa0876adb06ac86ea768442148d64cf2068f8c20d57"), looks := false }, kinds := [], alts := [], laidByText := true, laidKinds := [.data], laidTests := true, laidLooks := .later }
def ConditionPermitsUptoCardSaid : Prop := Claim7.holds Tryd.pinned (.plain (OpenSpec.upto conditionPermitsSpec)) conditionPermitsUptoCard
end Rows
end Go.Proofs.YthpccmmdkbjjhaaDoor
