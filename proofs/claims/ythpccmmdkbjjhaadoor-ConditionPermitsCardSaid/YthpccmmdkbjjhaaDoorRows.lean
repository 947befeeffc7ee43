/-
  NARROWER THAN 'FOR EVERY INPUT', by the rows' own cells (each row's printed sentence says how): ConditionInputs: loops, laid · ConditionOutputs: loops, laid · ConditionTasks: loops, laid · ConditionGraphs: loops, laid · ConditionCombines: loops, laid · ConditionDivides: loops, laid · ConditionPermits: loops, laid.
  DERIVED. THE GIVEN ROWS OF THIS SEAT. 7 by the template 'for every input the law returns true; each argument reads behind the call as it read before'; 0 by the template 'total and deterministic' (their statements: YthpccmmdkbjjhaaDoorTotals.lean).
  GIVEN WITH THE SEED: the statements are not yours to turn. If you find one false, say at which input.
  Laid BY PROGRAM, IN A SANDBOX (cutbox-rows.mjs): the forced cells as the released guide's own fill.sh prints them over the translation 36a9004eff29cb49… (all of the seat's roots in one cut). By AI agents, Wed Nov 11 2026. No macro, syntax, notation, axiom, sorry.
-/
import Derived.Test.YthpccmmdkbjjhaaDoorChecked
import GoSem.Claim
import GoSem.ClaimJoined
import GoSem.ClaimMapViews
import Derived.JoinedTies
import Derived.KernelRfl
namespace Go.Proofs.YthpccmmdkbjjhaaDoor
/- THE CELL 'sum', in the pinned program and in every row, IS THE sha256 OF THE DUMP (.gsa) THAT YthpccmmdkbjjhaaDoorProg.lean LOADS. Nothing in Lean hashes anything: it is a label: what it is worth is what the hold of that sum in a sandbox is worth. -/
noncomputable def Tryd.pinned : Pinned := { name := "ythpccmmdkbjjhaadoor", sum := "36a9004eff29cb491167d562ae3f5b2ce1a64529b11f99ccad39ffc21d36e1b3", checked := Tryd.checked }
namespace Rows
def none {H : Type} : Left H := { results := [], args := [] }

/- WHAT THE LISTED PACKAGE-LEVEL VARIABLES READ AS WHEN THE CALL BEGINS. Each datum BY PROGRAM (the guide's laid-datum.mjs) off the statement by which the dump's own 'gosem.cut.vars' lays the variable. In a bare row this is a premise. The card (YthpccmmdkbjjhaaDoorCards.lean) ties it to the program's text. -/
def laid_roundtable_expr_rows {H : Type} : DataW H := .agg [.agg [.lit (.int .i64 0), .lit (.int .i64 0), .lit (.int .i64 0)], .agg [.lit (.int .i64 0), .lit (.int .i64 0), .lit (.int .i64 0)], .agg [.lit (.int .i64 0), .lit (.int .i64 1), .lit (.int .i64 0)], .agg [.lit (.int .i64 0), .lit (.int .i64 1), .lit (.int .i64 0)], .agg [.lit (.int .i64 1), .lit (.int .i64 2), .lit (.int .i64 0)], .agg [.lit (.int .i64 0), .lit (.int .i64 2), .lit (.int .i64 0)], .agg [.lit (.int .i64 0), .lit (.int .i64 2), .lit (.int .i64 0)], .agg [.lit (.int .i64 1), .lit (.int .i64 2), .lit (.int .i64 0)], .agg [.lit (.int .i64 1), .lit (.int .i64 2), .lit (.int .i64 0)], .agg [.lit (.int .i64 1), .lit (.int .i64 2), .lit (.int .i64 0)], .agg [.lit (.int .i64 1), .lit (.int .i64 2), .lit (.int .i64 1)], .agg [.lit (.int .i64 1), .lit (.int .i64 2), .lit (.int .i64 1)], .agg [.lit (.int .i64 1), .lit (.int .i64 1), .lit (.int .i64 1)], .agg [.lit (.int .i64 1), .lit (.int .i64 1), .lit (.int .i64 1)], .agg [.lit (.int .i64 1), .lit (.int .i64 1), .lit (.int .i64 1)], .agg [.lit (.int .i64 0), .lit (.int .i64 1), .lit (.int .i64 1)]]

/-- 'roundtablelaw13.ConditionInputs': WHATEVER THE INPUT: true; the input reads as it did. -/
def conditionInputsSpec : ChangeSpec := { name := "conditionInputs", fn := fun _ => fun
  | [d1, d2] => { results := [.lit (.bool true)], args := [d1, d2] }
  | _ => none }
def conditionInputsRow : OpenClaim := { program := "ythpccmmdkbjjhaadoor", sum := "36a9004eff29cb491167d562ae3f5b2ce1a64529b11f99ccad39ffc21d36e1b3", func := "roundtable/roundtablelaw13.ConditionInputs", spec := "conditionInputs", unfollowed := true, recurses := true, named := ["roundtable/expr.rows"], loops := true, apart := false, laid := [("roundtable/expr.rows", laid_roundtable_expr_rows)] }
def ConditionInputsSaid : Prop := conditionInputsRow.holds Tryd.pinned (OpenSpec.ofChange conditionInputsSpec)

/-- ITS FALSE NEIGHBOUR: 'it returns false'. Refute it at one input. -/
def conditionInputsWrong : ChangeSpec := { name := "conditionInputs", fn := fun _ => fun
  | [d1, d2] => { results := [.lit (.bool false)], args := [d1, d2] }
  | _ => none }
def ConditionInputsWrongFalsely : Prop := conditionInputsRow.holds Tryd.pinned (OpenSpec.ofChange conditionInputsWrong)

/-- 'roundtablelaw13.ConditionOutputs': WHATEVER THE INPUT: true; the input reads as it did. -/
def conditionOutputsSpec : ChangeSpec := { name := "conditionOutputs", fn := fun _ => fun
  | [d1, d2, d3] => { results := [.lit (.bool true)], args := [d1, d2, d3] }
  | _ => none }
def conditionOutputsRow : OpenClaim := { program := "ythpccmmdkbjjhaadoor", sum := "36a9004eff29cb491167d562ae3f5b2ce1a64529b11f99ccad39ffc21d36e1b3", func := "roundtable/roundtablelaw13.ConditionOutputs", spec := "conditionOutputs", unfollowed := true, recurses := true, named := ["roundtable/expr.rows"], loops := true, apart := false, laid := [("roundtable/expr.rows", laid_roundtable_expr_rows)] }
def ConditionOutputsSaid : Prop := conditionOutputsRow.holds Tryd.pinned (OpenSpec.ofChange conditionOutputsSpec)

/-- ITS FALSE NEIGHBOUR: 'it returns false'. Refute it at one input. -/
def conditionOutputsWrong : ChangeSpec := { name := "conditionOutputs", fn := fun _ => fun
  | [d1, d2, d3] => { results := [.lit (.bool false)], args := [d1, d2, d3] }
  | _ => none }
def ConditionOutputsWrongFalsely : Prop := conditionOutputsRow.holds Tryd.pinned (OpenSpec.ofChange conditionOutputsWrong)

/-- 'roundtablelaw13.ConditionTasks': WHATEVER THE INPUT: true; the input reads as it did. -/
def conditionTasksSpec : ChangeSpec := { name := "conditionTasks", fn := fun _ => fun
  | [d1, d2] => { results := [.lit (.bool true)], args := [d1, d2] }
  | _ => none }
def conditionTasksRow : OpenClaim := { program := "ythpccmmdkbjjhaadoor", sum := "36a9004eff29cb491167d562ae3f5b2ce1a64529b11f99ccad39ffc21d36e1b3", func := "roundtable/roundtablelaw13.ConditionTasks", spec := "conditionTasks", unfollowed := true, recurses := true, named := ["roundtable/expr.rows"], loops := true, apart := false, laid := [("roundtable/expr.rows", laid_roundtable_expr_rows)] }
def ConditionTasksSaid : Prop := conditionTasksRow.holds Tryd.pinned (OpenSpec.ofChange conditionTasksSpec)

/-- ITS FALSE NEIGHBOUR: 'it returns false'. Refute it at one input. -/
def conditionTasksWrong : ChangeSpec := { name := "conditionTasks", fn := fun _ => fun
  | [d1, d2] => { results := [.lit (.bool false)], args := [d1, d2] }
  | _ => none }
def ConditionTasksWrongFalsely : Prop := conditionTasksRow.holds Tryd.pinned (OpenSpec.ofChange conditionTasksWrong)

/-- 'roundtablelaw13.ConditionGraphs': WHATEVER THE INPUT: true; the input reads as it did. -/
def conditionGraphsSpec : ChangeSpec := { name := "conditionGraphs", fn := fun _ => fun
  | [d1, d2] => { results := [.lit (.bool true)], args := [d1, d2] }
  | _ => none }
def conditionGraphsRow : OpenClaim := { program := "ythpccmmdkbjjhaadoor", sum := "36a9004eff29cb491167d562ae3f5b2ce1a64529b11f99ccad39ffc21d36e1b3", func := "roundtable/roundtablelaw13.ConditionGraphs", spec := "conditionGraphs", unfollowed := true, recurses := true, named := ["roundtable/expr.rows"], loops := true, apart := false, laid := [("roundtable/expr.rows", laid_roundtable_expr_rows)] }
def ConditionGraphsSaid : Prop := conditionGraphsRow.holds Tryd.pinned (OpenSpec.ofChange conditionGraphsSpec)

/-- ITS FALSE NEIGHBOUR: 'it returns false'. Refute it at one input. -/
def conditionGraphsWrong : ChangeSpec := { name := "conditionGraphs", fn := fun _ => fun
  | [d1, d2] => { results := [.lit (.bool false)], args := [d1, d2] }
  | _ => none }
def ConditionGraphsWrongFalsely : Prop := conditionGraphsRow.holds Tryd.pinned (OpenSpec.ofChange conditionGraphsWrong)

/-- 'roundtablelaw13.ConditionCombines': WHATEVER THE INPUT: true; the input reads as it did. -/
def conditionCombinesSpec : ChangeSpec := { name := "conditionCombines", fn := fun _ => fun
  | [d1, d2, d3] => { results := [.lit (.bool true)], args := [d1, d2, d3] }
  | _ => none }
def conditionCombinesRow : OpenClaim := { program := "ythpccmmdkbjjhaadoor", sum := "36a9004eff29cb491167d562ae3f5b2ce1a64529b11f99ccad39ffc21d36e1b3", func := "roundtable/roundtablelaw13.ConditionCombines", spec := "conditionCombines", unfollowed := true, recurses := true, named := ["roundtable/expr.rows"], loops := true, apart := false, laid := [("roundtable/expr.rows", laid_roundtable_expr_rows)] }
def ConditionCombinesSaid : Prop := conditionCombinesRow.holds Tryd.pinned (OpenSpec.ofChange conditionCombinesSpec)

/-- ITS FALSE NEIGHBOUR: 'it returns false'. Refute it at one input. -/
def conditionCombinesWrong : ChangeSpec := { name := "conditionCombines", fn := fun _ => fun
  | [d1, d2, d3] => { results := [.lit (.bool false)], args := [d1, d2, d3] }
  | _ => none }
def ConditionCombinesWrongFalsely : Prop := conditionCombinesRow.holds Tryd.pinned (OpenSpec.ofChange conditionCombinesWrong)

/-- 'roundtablelaw13.ConditionDivides': WHATEVER THE INPUT: true; the input reads as it did. -/
def conditionDividesSpec : ChangeSpec := { name := "conditionDivides", fn := fun _ => fun
  | [d1, d2, d3] => { results := [.lit (.bool true)], args := [d1, d2, d3] }
  | _ => none }
def conditionDividesRow : OpenClaim := { program := "ythpccmmdkbjjhaadoor", sum := "36a9004eff29cb491167d562ae3f5b2ce1a64529b11f99ccad39ffc21d36e1b3", func := "roundtable/roundtablelaw13.ConditionDivides", spec := "conditionDivides", unfollowed := true, recurses := true, named := ["roundtable/expr.rows"], loops := true, apart := false, laid := [("roundtable/expr.rows", laid_roundtable_expr_rows)] }
def ConditionDividesSaid : Prop := conditionDividesRow.holds Tryd.pinned (OpenSpec.ofChange conditionDividesSpec)

/-- ITS FALSE NEIGHBOUR: 'it returns false'. Refute it at one input. -/
def conditionDividesWrong : ChangeSpec := { name := "conditionDivides", fn := fun _ => fun
  | [d1, d2, d3] => { results := [.lit (.bool false)], args := [d1, d2, d3] }
  | _ => none }
def ConditionDividesWrongFalsely : Prop := conditionDividesRow.holds Tryd.pinned (OpenSpec.ofChange conditionDividesWrong)

/-- 'roundtablelaw13.ConditionPermits': WHATEVER THE INPUT: true; the input reads as it did. -/
def conditionPermitsSpec : ChangeSpec := { name := "conditionPermits", fn := fun _ => fun
  | [d1, d2] => { results := [.lit (.bool true)], args := [d1, d2] }
  | _ => none }
def conditionPermitsRow : OpenClaim := { program := "ythpccmmdkbjjhaadoor", sum := "36a9004eff29cb491167d562ae3f5b2ce1a64529b11f99ccad39ffc21d36e1b3", func := "roundtable/roundtablelaw13.ConditionPermits", spec := "conditionPermits", unfollowed := true, recurses := true, named := ["roundtable/expr.rows"], loops := true, apart := false, laid := [("roundtable/expr.rows", laid_roundtable_expr_rows)] }
def ConditionPermitsSaid : Prop := conditionPermitsRow.holds Tryd.pinned (OpenSpec.ofChange conditionPermitsSpec)

/-- ITS FALSE NEIGHBOUR: 'it returns false'. Refute it at one input. -/
def conditionPermitsWrong : ChangeSpec := { name := "conditionPermits", fn := fun _ => fun
  | [d1, d2] => { results := [.lit (.bool false)], args := [d1, d2] }
  | _ => none }
def ConditionPermitsWrongFalsely : Prop := conditionPermitsRow.holds Tryd.pinned (OpenSpec.ofChange conditionPermitsWrong)

/- THE SECOND FORM. 'bulk': how many values and letters a reading holds, each counted each time it is reached (what is shared counts as often as it is met; a slice's spare places count too). A statement '..UptoSaid' is the law's where the arguments, and the package variables that the reading takes, are together of bulk at most 1048576: NARROWER than '..Said'. Prove '..Said' where nothing that the law and all that it calls make is longer than what came in: it says more and counts as full. Else prove '..UptoSaid'. A law counts once. -/
mutual
def uptoBulk {H : Type} : DataW H → Nat
  | .lit (.string bytes) => bytes.length + 1
  | .lit _ => 1
  | .nil => 1
  | .ptr d => uptoBulk d + 1
  | .slice elems spare => uptoBulkAll elems + uptoBulkAll spare + 1
  | .agg parts => uptoBulkAll parts + 1
  | .iface _ d => uptoBulk d + 1
  | .map entries => uptoBulkEntries entries + 1
  | .held _ => 1
def uptoBulkAll {H : Type} : List (DataW H) → Nat
  | [] => 0
  | d :: r => uptoBulk d + uptoBulkAll r
def uptoBulkEntries {H : Type} : List (Lit × DataW H) → Nat
  | [] => 0
  | x :: r => uptoBulkEntry x + uptoBulkEntries r
def uptoBulkEntry {H : Type} : Lit × DataW H → Nat
  | (.string bytes, d) => bytes.length + uptoBulk d + 1
  | (_, d) => uptoBulk d + 1
 end
def uptoSmall : (H : Type) → List (DataW H) → Bool := fun _ ds => decide (uptoBulkAll ds ≤ 1048576)
def OpenSpec.upto (s : _root_.Go.ChangeSpec) : _root_.Go.OpenSpec := { _root_.Go.OpenSpec.ofChange s with cond := some uptoSmall }

/-- 'roundtablelaw13.ConditionInputs', WHERE WHAT IT READS IS OF BULK AT MOST 1048576: true; the input reads as it did. -/
def conditionInputsUptoRow : OpenClaim := { program := "ythpccmmdkbjjhaadoor", sum := "36a9004eff29cb491167d562ae3f5b2ce1a64529b11f99ccad39ffc21d36e1b3", func := "roundtable/roundtablelaw13.ConditionInputs", spec := "conditionInputs", unfollowed := true, recurses := true, named := ["roundtable/expr.rows"], loops := true, apart := false, laid := [("roundtable/expr.rows", laid_roundtable_expr_rows)], narrowed := true }
def ConditionInputsUptoSaid : Prop := conditionInputsUptoRow.holds Tryd.pinned (OpenSpec.upto conditionInputsSpec)

/-- 'roundtablelaw13.ConditionOutputs', WHERE WHAT IT READS IS OF BULK AT MOST 1048576: true; the input reads as it did. -/
def conditionOutputsUptoRow : OpenClaim := { program := "ythpccmmdkbjjhaadoor", sum := "36a9004eff29cb491167d562ae3f5b2ce1a64529b11f99ccad39ffc21d36e1b3", func := "roundtable/roundtablelaw13.ConditionOutputs", spec := "conditionOutputs", unfollowed := true, recurses := true, named := ["roundtable/expr.rows"], loops := true, apart := false, laid := [("roundtable/expr.rows", laid_roundtable_expr_rows)], narrowed := true }
def ConditionOutputsUptoSaid : Prop := conditionOutputsUptoRow.holds Tryd.pinned (OpenSpec.upto conditionOutputsSpec)

/-- 'roundtablelaw13.ConditionTasks', WHERE WHAT IT READS IS OF BULK AT MOST 1048576: true; the input reads as it did. -/
def conditionTasksUptoRow : OpenClaim := { program := "ythpccmmdkbjjhaadoor", sum := "36a9004eff29cb491167d562ae3f5b2ce1a64529b11f99ccad39ffc21d36e1b3", func := "roundtable/roundtablelaw13.ConditionTasks", spec := "conditionTasks", unfollowed := true, recurses := true, named := ["roundtable/expr.rows"], loops := true, apart := false, laid := [("roundtable/expr.rows", laid_roundtable_expr_rows)], narrowed := true }
def ConditionTasksUptoSaid : Prop := conditionTasksUptoRow.holds Tryd.pinned (OpenSpec.upto conditionTasksSpec)

/-- 'roundtablelaw13.ConditionGraphs', WHERE WHAT IT READS IS OF BULK AT MOST 1048576: true; the input reads as it did. -/
def conditionGraphsUptoRow : OpenClaim := { program := "ythpccmmdkbjjhaadoor", sum := "36a9004eff29cb491167d562ae3f5b2ce1a64529b11f99ccad39ffc21d36e1b3", func := "roundtable/roundtablelaw13.ConditionGraphs", spec := "conditionGraphs", unfollowed := true, recurses := true, named := ["roundtable/expr.rows"], loops := true, apart := false, laid := [("roundtable/expr.rows", laid_roundtable_expr_rows)], narrowed := true }
def ConditionGraphsUptoSaid : Prop := conditionGraphsUptoRow.holds Tryd.pinned (OpenSpec.upto conditionGraphsSpec)

/-- 'roundtablelaw13.ConditionCombines', WHERE WHAT IT READS IS OF BULK AT MOST 1048576: true; the input reads as it did. -/
def conditionCombinesUptoRow : OpenClaim := { program := "ythpccmmdkbjjhaadoor", sum := "36a9004eff29cb491167d562ae3f5b2ce1a64529b11f99ccad39ffc21d36e1b3", func := "roundtable/roundtablelaw13.ConditionCombines", spec := "conditionCombines", unfollowed := true, recurses := true, named := ["roundtable/expr.rows"], loops := true, apart := false, laid := [("roundtable/expr.rows", laid_roundtable_expr_rows)], narrowed := true }
def ConditionCombinesUptoSaid : Prop := conditionCombinesUptoRow.holds Tryd.pinned (OpenSpec.upto conditionCombinesSpec)

/-- 'roundtablelaw13.ConditionDivides', WHERE WHAT IT READS IS OF BULK AT MOST 1048576: true; the input reads as it did. -/
def conditionDividesUptoRow : OpenClaim := { program := "ythpccmmdkbjjhaadoor", sum := "36a9004eff29cb491167d562ae3f5b2ce1a64529b11f99ccad39ffc21d36e1b3", func := "roundtable/roundtablelaw13.ConditionDivides", spec := "conditionDivides", unfollowed := true, recurses := true, named := ["roundtable/expr.rows"], loops := true, apart := false, laid := [("roundtable/expr.rows", laid_roundtable_expr_rows)], narrowed := true }
def ConditionDividesUptoSaid : Prop := conditionDividesUptoRow.holds Tryd.pinned (OpenSpec.upto conditionDividesSpec)

/-- 'roundtablelaw13.ConditionPermits', WHERE WHAT IT READS IS OF BULK AT MOST 1048576: true; the input reads as it did. -/
def conditionPermitsUptoRow : OpenClaim := { program := "ythpccmmdkbjjhaadoor", sum := "36a9004eff29cb491167d562ae3f5b2ce1a64529b11f99ccad39ffc21d36e1b3", func := "roundtable/roundtablelaw13.ConditionPermits", spec := "conditionPermits", unfollowed := true, recurses := true, named := ["roundtable/expr.rows"], loops := true, apart := false, laid := [("roundtable/expr.rows", laid_roundtable_expr_rows)], narrowed := true }
def ConditionPermitsUptoSaid : Prop := conditionPermitsUptoRow.holds Tryd.pinned (OpenSpec.upto conditionPermitsSpec)

end Rows
end Go.Proofs.YthpccmmdkbjjhaaDoor
