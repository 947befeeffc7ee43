/-
  No cell of these rows narrows 'for every input' (looked for: loops, veiled, ifaces, maps, wideKeys, modest, calm, conditions, laid).
  DERIVED. THE GIVEN ROWS OF THIS SEAT. 8 by the template 'for every input the law returns true; each argument reads behind the call as it read before'; 0 by the template 'total and deterministic' (their statements: YtjgkgcjmcpgiaaaTotals.lean).
  GIVEN WITH THE SEED: the statements are not yours to turn. If you find one false, say at which input.
  Laid BY PROGRAM, IN A SANDBOX (cutbox-rows.mjs): the forced cells as the released guide's own fill.sh prints them over the translation b90f778fc87d4c29… (all of the seat's roots in one cut). By AI agents, Wed Nov 11 2026. No macro, syntax, notation, axiom, sorry.
-/
import Derived.Test.YtjgkgcjmcpgiaaaChecked
import GoSem.Claim
import GoSem.ClaimJoined
import GoSem.ClaimMapViews
import Derived.JoinedTies
import Derived.KernelRfl
namespace Go.Proofs.Ytjgkgcjmcpgiaaa
/- THE CELL 'sum', in the pinned program and in every row, IS THE sha256 OF THE DUMP (.gsa) THAT YtjgkgcjmcpgiaaaProg.lean LOADS. Nothing in Lean hashes anything: it is a label: what it is worth is what the hold of that sum in a sandbox is worth. -/
noncomputable def Try.pinned : Pinned := { name := "ytjgkgcjmcpgiaaa", sum := "b90f778fc87d4c299fc58725b60a2a1ad529a1aff68e3e03808e15026c70225c", checked := Try.checked }
namespace Rows
def none {H : Type} : Left H := { results := [], args := [] }

/-- 'roundtablelaw16.AdversaryAllows': WHATEVER THE INPUT: true; the input reads as it did. -/
def adversaryAllowsSpec : ChangeSpec := { name := "adversaryAllows", fn := fun _ => fun
  | [d1, d2] => { results := [.lit (.bool true)], args := [d1, d2] }
  | _ => none }
def adversaryAllowsRow : OpenClaim := { program := "ytjgkgcjmcpgiaaa", sum := "b90f778fc87d4c299fc58725b60a2a1ad529a1aff68e3e03808e15026c70225c", func := "roundtable/roundtablelaw16.AdversaryAllows", spec := "adversaryAllows", unfollowed := true, recurses := true, plainKeys := false, apart := false }
def AdversaryAllowsSaid : Prop := adversaryAllowsRow.holds Try.pinned (OpenSpec.ofChange adversaryAllowsSpec)

/-- ITS FALSE NEIGHBOUR: 'it returns false'. Refute it at one input. -/
def adversaryAllowsWrong : ChangeSpec := { name := "adversaryAllows", fn := fun _ => fun
  | [d1, d2] => { results := [.lit (.bool false)], args := [d1, d2] }
  | _ => none }
def AdversaryAllowsWrongFalsely : Prop := adversaryAllowsRow.holds Try.pinned (OpenSpec.ofChange adversaryAllowsWrong)

/-- 'roundtablelaw16.AdversaryLists': WHATEVER THE INPUT: true; the input reads as it did. -/
def adversaryListsSpec : ChangeSpec := { name := "adversaryLists", fn := fun _ => fun
  | [d1, d2] => { results := [.lit (.bool true)], args := [d1, d2] }
  | _ => none }
def adversaryListsRow : OpenClaim := { program := "ytjgkgcjmcpgiaaa", sum := "b90f778fc87d4c299fc58725b60a2a1ad529a1aff68e3e03808e15026c70225c", func := "roundtable/roundtablelaw16.AdversaryLists", spec := "adversaryLists", unfollowed := true, recurses := true, plainKeys := false, apart := false }
def AdversaryListsSaid : Prop := adversaryListsRow.holds Try.pinned (OpenSpec.ofChange adversaryListsSpec)

/-- ITS FALSE NEIGHBOUR: 'it returns false'. Refute it at one input. -/
def adversaryListsWrong : ChangeSpec := { name := "adversaryLists", fn := fun _ => fun
  | [d1, d2] => { results := [.lit (.bool false)], args := [d1, d2] }
  | _ => none }
def AdversaryListsWrongFalsely : Prop := adversaryListsRow.holds Try.pinned (OpenSpec.ofChange adversaryListsWrong)

/-- 'roundtablelaw16.AdversaryTrims': WHATEVER THE INPUT: true; the input reads as it did. -/
def adversaryTrimsSpec : ChangeSpec := { name := "adversaryTrims", fn := fun _ => fun
  | [d] => { results := [.lit (.bool true)], args := [d] }
  | _ => none }
def adversaryTrimsRow : OpenClaim := { program := "ytjgkgcjmcpgiaaa", sum := "b90f778fc87d4c299fc58725b60a2a1ad529a1aff68e3e03808e15026c70225c", func := "roundtable/roundtablelaw16.AdversaryTrims", spec := "adversaryTrims", unfollowed := true, recurses := true, plainKeys := false, apart := false }
def AdversaryTrimsSaid : Prop := adversaryTrimsRow.holds Try.pinned (OpenSpec.ofChange adversaryTrimsSpec)

/-- ITS FALSE NEIGHBOUR: 'it returns false'. Refute it at one input. -/
def adversaryTrimsWrong : ChangeSpec := { name := "adversaryTrims", fn := fun _ => fun
  | [d] => { results := [.lit (.bool false)], args := [d] }
  | _ => none }
def AdversaryTrimsWrongFalsely : Prop := adversaryTrimsRow.holds Try.pinned (OpenSpec.ofChange adversaryTrimsWrong)

/-- 'roundtablelaw16.AdversaryKeeps': WHATEVER THE INPUT: true; the input reads as it did. -/
def adversaryKeepsSpec : ChangeSpec := { name := "adversaryKeeps", fn := fun _ => fun
  | [d1, d2] => { results := [.lit (.bool true)], args := [d1, d2] }
  | _ => none }
def adversaryKeepsRow : OpenClaim := { program := "ytjgkgcjmcpgiaaa", sum := "b90f778fc87d4c299fc58725b60a2a1ad529a1aff68e3e03808e15026c70225c", func := "roundtable/roundtablelaw16.AdversaryKeeps", spec := "adversaryKeeps", unfollowed := true, recurses := true, plainKeys := false, apart := false }
def AdversaryKeepsSaid : Prop := adversaryKeepsRow.holds Try.pinned (OpenSpec.ofChange adversaryKeepsSpec)

/-- ITS FALSE NEIGHBOUR: 'it returns false'. Refute it at one input. -/
def adversaryKeepsWrong : ChangeSpec := { name := "adversaryKeeps", fn := fun _ => fun
  | [d1, d2] => { results := [.lit (.bool false)], args := [d1, d2] }
  | _ => none }
def AdversaryKeepsWrongFalsely : Prop := adversaryKeepsRow.holds Try.pinned (OpenSpec.ofChange adversaryKeepsWrong)

/-- 'roundtablelaw16.AdversaryRepeats': WHATEVER THE INPUT: true; the input reads as it did. -/
def adversaryRepeatsSpec : ChangeSpec := { name := "adversaryRepeats", fn := fun _ => fun
  | [d1, d2] => { results := [.lit (.bool true)], args := [d1, d2] }
  | _ => none }
def adversaryRepeatsRow : OpenClaim := { program := "ytjgkgcjmcpgiaaa", sum := "b90f778fc87d4c299fc58725b60a2a1ad529a1aff68e3e03808e15026c70225c", func := "roundtable/roundtablelaw16.AdversaryRepeats", spec := "adversaryRepeats", unfollowed := true, recurses := true, plainKeys := false, apart := false }
def AdversaryRepeatsSaid : Prop := adversaryRepeatsRow.holds Try.pinned (OpenSpec.ofChange adversaryRepeatsSpec)

/-- ITS FALSE NEIGHBOUR: 'it returns false'. Refute it at one input. -/
def adversaryRepeatsWrong : ChangeSpec := { name := "adversaryRepeats", fn := fun _ => fun
  | [d1, d2] => { results := [.lit (.bool false)], args := [d1, d2] }
  | _ => none }
def AdversaryRepeatsWrongFalsely : Prop := adversaryRepeatsRow.holds Try.pinned (OpenSpec.ofChange adversaryRepeatsWrong)

/-- 'roundtablelaw16.AdversaryChecks': WHATEVER THE INPUT: true; the input reads as it did. -/
def adversaryChecksSpec : ChangeSpec := { name := "adversaryChecks", fn := fun _ => fun
  | [d1, d2, d3] => { results := [.lit (.bool true)], args := [d1, d2, d3] }
  | _ => none }
def adversaryChecksRow : OpenClaim := { program := "ytjgkgcjmcpgiaaa", sum := "b90f778fc87d4c299fc58725b60a2a1ad529a1aff68e3e03808e15026c70225c", func := "roundtable/roundtablelaw16.AdversaryChecks", spec := "adversaryChecks", unfollowed := true, recurses := true, plainKeys := false, apart := false }
def AdversaryChecksSaid : Prop := adversaryChecksRow.holds Try.pinned (OpenSpec.ofChange adversaryChecksSpec)

/-- ITS FALSE NEIGHBOUR: 'it returns false'. Refute it at one input. -/
def adversaryChecksWrong : ChangeSpec := { name := "adversaryChecks", fn := fun _ => fun
  | [d1, d2, d3] => { results := [.lit (.bool false)], args := [d1, d2, d3] }
  | _ => none }
def AdversaryChecksWrongFalsely : Prop := adversaryChecksRow.holds Try.pinned (OpenSpec.ofChange adversaryChecksWrong)

/-- 'roundtablelaw16.AdversaryContinues': WHATEVER THE INPUT: true; the input reads as it did. -/
def adversaryContinuesSpec : ChangeSpec := { name := "adversaryContinues", fn := fun _ => fun
  | [d1, d2] => { results := [.lit (.bool true)], args := [d1, d2] }
  | _ => none }
def adversaryContinuesRow : OpenClaim := { program := "ytjgkgcjmcpgiaaa", sum := "b90f778fc87d4c299fc58725b60a2a1ad529a1aff68e3e03808e15026c70225c", func := "roundtable/roundtablelaw16.AdversaryContinues", spec := "adversaryContinues", unfollowed := true, recurses := true, plainKeys := false, apart := false }
def AdversaryContinuesSaid : Prop := adversaryContinuesRow.holds Try.pinned (OpenSpec.ofChange adversaryContinuesSpec)

/-- ITS FALSE NEIGHBOUR: 'it returns false'. Refute it at one input. -/
def adversaryContinuesWrong : ChangeSpec := { name := "adversaryContinues", fn := fun _ => fun
  | [d1, d2] => { results := [.lit (.bool false)], args := [d1, d2] }
  | _ => none }
def AdversaryContinuesWrongFalsely : Prop := adversaryContinuesRow.holds Try.pinned (OpenSpec.ofChange adversaryContinuesWrong)

/-- 'roundtablelaw16.AdversaryEnumerates': WHATEVER THE INPUT: true; the input reads as it did. -/
def adversaryEnumeratesSpec : ChangeSpec := { name := "adversaryEnumerates", fn := fun _ => fun
  | [d1, d2] => { results := [.lit (.bool true)], args := [d1, d2] }
  | _ => none }
def adversaryEnumeratesRow : OpenClaim := { program := "ytjgkgcjmcpgiaaa", sum := "b90f778fc87d4c299fc58725b60a2a1ad529a1aff68e3e03808e15026c70225c", func := "roundtable/roundtablelaw16.AdversaryEnumerates", spec := "adversaryEnumerates", unfollowed := true, recurses := true, plainKeys := false, apart := false }
def AdversaryEnumeratesSaid : Prop := adversaryEnumeratesRow.holds Try.pinned (OpenSpec.ofChange adversaryEnumeratesSpec)

/-- ITS FALSE NEIGHBOUR: 'it returns false'. Refute it at one input. -/
def adversaryEnumeratesWrong : ChangeSpec := { name := "adversaryEnumerates", fn := fun _ => fun
  | [d1, d2] => { results := [.lit (.bool false)], args := [d1, d2] }
  | _ => none }
def AdversaryEnumeratesWrongFalsely : Prop := adversaryEnumeratesRow.holds Try.pinned (OpenSpec.ofChange adversaryEnumeratesWrong)

/- THE SECOND FORM. 'bulk': how many values and letters a reading holds, each counted each time it is reached (what is shared counts as often as it is met; a slice's spare places count too). A statement '..UptoSaid' is the law's where the arguments, and the package variables that the reading takes, are together of bulk at most 1048576: NARROWER than '..Said'. Prove '..Said' where nothing that the law and all that it calls make is longer than what came in: it says more and counts as full. Else prove '..UptoSaid'. A law counts once. -/
mutual
def uptoBulk {H : Type} : DataW H → Nat
  | .lit (.string bytes) => bytes.length + 1
  | .lit _ => 1
  | .nil => 1
  | .ptr d => uptoBulk d + 1
  | .slice elems spare => uptoBulkAll elems + uptoBulkAll spare + 1
  | .agg parts => uptoBulkAll parts + 1
  | .iface _ d => uptoBulk d + 1
  | .map entries => uptoBulkEntries entries + 1
  | .held _ => 1
def uptoBulkAll {H : Type} : List (DataW H) → Nat
  | [] => 0
  | d :: r => uptoBulk d + uptoBulkAll r
def uptoBulkEntries {H : Type} : List (Lit × DataW H) → Nat
  | [] => 0
  | x :: r => uptoBulkEntry x + uptoBulkEntries r
def uptoBulkEntry {H : Type} : Lit × DataW H → Nat
  | (.string bytes, d) => bytes.length + uptoBulk d + 1
  | (_, d) => uptoBulk d + 1
 end
def uptoSmall : (H : Type) → List (DataW H) → Bool := fun _ ds => decide (uptoBulkAll ds ≤ 1048576)
def OpenSpec.upto (s : _root_.Go.ChangeSpec) : _root_.Go.OpenSpec := { _root_.Go.OpenSpec.ofChange s with cond := some uptoSmall }

/-- 'roundtablelaw16.AdversaryAllows', WHERE WHAT IT READS IS OF BULK AT MOST 1048576: true; the input reads as it did. -/
def adversaryAllowsUptoRow : OpenClaim := { program := "ytjgkgcjmcpgiaaa", sum := "b90f778fc87d4c299fc58725b60a2a1ad529a1aff68e3e03808e15026c70225c", func := "roundtable/roundtablelaw16.AdversaryAllows", spec := "adversaryAllows", unfollowed := true, recurses := true, plainKeys := false, apart := false, narrowed := true }
def AdversaryAllowsUptoSaid : Prop := adversaryAllowsUptoRow.holds Try.pinned (OpenSpec.upto adversaryAllowsSpec)

/-- 'roundtablelaw16.AdversaryLists', WHERE WHAT IT READS IS OF BULK AT MOST 1048576: true; the input reads as it did. -/
def adversaryListsUptoRow : OpenClaim := { program := "ytjgkgcjmcpgiaaa", sum := "b90f778fc87d4c299fc58725b60a2a1ad529a1aff68e3e03808e15026c70225c", func := "roundtable/roundtablelaw16.AdversaryLists", spec := "adversaryLists", unfollowed := true, recurses := true, plainKeys := false, apart := false, narrowed := true }
def AdversaryListsUptoSaid : Prop := adversaryListsUptoRow.holds Try.pinned (OpenSpec.upto adversaryListsSpec)

/-- 'roundtablelaw16.AdversaryTrims', WHERE WHAT IT READS IS OF BULK AT MOST 1048576: true; the input reads as it did. -/
def adversaryTrimsUptoRow : OpenClaim := { program := "ytjgkgcjmcpgiaaa", sum := "b90f778fc87d4c299fc58725b60a2a1ad529a1aff68e3e03808e15026c70225c", func := "roundtable/roundtablelaw16.AdversaryTrims", spec := "adversaryTrims", unfollowed := true, recurses := true, plainKeys := false, apart := false, narrowed := true }
def AdversaryTrimsUptoSaid : Prop := adversaryTrimsUptoRow.holds Try.pinned (OpenSpec.upto adversaryTrimsSpec)

/-- 'roundtablelaw16.AdversaryKeeps', WHERE WHAT IT READS IS OF BULK AT MOST 1048576: true; the input reads as it did. -/
def adversaryKeepsUptoRow : OpenClaim := { program := "ytjgkgcjmcpgiaaa", sum := "b90f778fc87d4c299fc58725b60a2a1ad529a1aff68e3e03808e15026c70225c", func := "roundtable/roundtablelaw16.AdversaryKeeps", spec := "adversaryKeeps", unfollowed := true, recurses := true, plainKeys := false, apart := false, narrowed := true }
def AdversaryKeepsUptoSaid : Prop := adversaryKeepsUptoRow.holds Try.pinned (OpenSpec.upto adversaryKeepsSpec)

/-- 'roundtablelaw16.AdversaryRepeats', WHERE WHAT IT READS IS OF BULK AT MOST 1048576: true; the input reads as it did. -/
def adversaryRepeatsUptoRow : OpenClaim := { program := "ytjgkgcjmcpgiaaa", sum := "b90f778fc87d4c299fc58725b60a2a1ad529a1aff68e3e03808e15026c70225c", func := "roundtable/roundtablelaw16.AdversaryRepeats", spec := "adversaryRepeats", unfollowed := true, recurses := true, plainKeys := false, apart := false, narrowed := true }
def AdversaryRepeatsUptoSaid : Prop := adversaryRepeatsUptoRow.holds Try.pinned (OpenSpec.upto adversaryRepeatsSpec)

/-- 'roundtablelaw16.AdversaryChecks', WHERE WHAT IT READS IS OF BULK AT MOST 1048576: true; the input reads as it did. -/
def adversaryChecksUptoRow : OpenClaim := { program := "ytjgkgcjmcpgiaaa", sum := "b90f778fc87d4c299fc58725b60a2a1ad529a1aff68e3e03808e15026c70225c", func := "roundtable/roundtablelaw16.AdversaryChecks", spec := "adversaryChecks", unfollowed := true, recurses := true, plainKeys := false, apart := false, narrowed := true }
def AdversaryChecksUptoSaid : Prop := adversaryChecksUptoRow.holds Try.pinned (OpenSpec.upto adversaryChecksSpec)

/-- 'roundtablelaw16.AdversaryContinues', WHERE WHAT IT READS IS OF BULK AT MOST 1048576: true; the input reads as it did. -/
def adversaryContinuesUptoRow : OpenClaim := { program := "ytjgkgcjmcpgiaaa", sum := "b90f778fc87d4c299fc58725b60a2a1ad529a1aff68e3e03808e15026c70225c", func := "roundtable/roundtablelaw16.AdversaryContinues", spec := "adversaryContinues", unfollowed := true, recurses := true, plainKeys := false, apart := false, narrowed := true }
def AdversaryContinuesUptoSaid : Prop := adversaryContinuesUptoRow.holds Try.pinned (OpenSpec.upto adversaryContinuesSpec)

/-- 'roundtablelaw16.AdversaryEnumerates', WHERE WHAT IT READS IS OF BULK AT MOST 1048576: true; the input reads as it did. -/
def adversaryEnumeratesUptoRow : OpenClaim := { program := "ytjgkgcjmcpgiaaa", sum := "b90f778fc87d4c299fc58725b60a2a1ad529a1aff68e3e03808e15026c70225c", func := "roundtable/roundtablelaw16.AdversaryEnumerates", spec := "adversaryEnumerates", unfollowed := true, recurses := true, plainKeys := false, apart := false, narrowed := true }
def AdversaryEnumeratesUptoSaid : Prop := adversaryEnumeratesUptoRow.holds Try.pinned (OpenSpec.upto adversaryEnumeratesSpec)

end Rows
end Go.Proofs.Ytjgkgcjmcpgiaaa
