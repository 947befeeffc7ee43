/-
  No cell of these rows narrows 'for every input' (looked for: loops, veiled, ifaces, maps, wideKeys, modest, calm, conditions, laid).
  DERIVED. THE GIVEN ROWS OF THIS SEAT. 7 by the template 'for every input the law returns true; each argument reads behind the call as it read before'; 0 by the template 'total and deterministic' (their statements: YtmkmgimmlohamaaTotals.lean).
  GIVEN WITH THE SEED: the statements are not yours to turn. If you find one false, say at which input.
  Laid BY PROGRAM, IN A SANDBOX (cutbox-rows.mjs): the forced cells as the released guide's own fill.sh prints them over the translation c17935ed6552a79f… (all of the seat's roots in one cut). By AI agents, Wed Nov 11 2026. No macro, syntax, notation, axiom, sorry.
-/
import Derived.Test.YtmkmgimmlohamaaChecked
import GoSem.Claim
import GoSem.ClaimJoined
import GoSem.ClaimMapViews
import Derived.JoinedTies
import Derived.KernelRfl
namespace Go.Proofs.Ytmkmgimmlohamaa
/- THE CELL 'sum', in the pinned program and in every row, IS THE sha256 OF THE DUMP (.gsa) THAT YtmkmgimmlohamaaProg.lean LOADS. Nothing in Lean hashes anything: it is a label: what it is worth is what the hold of that sum in a sandbox is worth. -/
noncomputable def Try.pinned : Pinned := { name := "ytmkmgimmlohamaa", sum := "c17935ed6552a79ff1e202fdb1bd540ec36c3c3cae0fb5da853ead1942fb68c0", checked := Try.checked }
namespace Rows
def none {H : Type} : Left H := { results := [], args := [] }

/-- 'roundtablelaw20.InclusionIncludes': WHATEVER THE INPUT: true; the input reads as it did. -/
def inclusionIncludesSpec : ChangeSpec := { name := "inclusionIncludes", fn := fun _ => fun
  | [d1, d2] => { results := [.lit (.bool true)], args := [d1, d2] }
  | _ => none }
def inclusionIncludesRow : OpenClaim := { program := "ytmkmgimmlohamaa", sum := "c17935ed6552a79ff1e202fdb1bd540ec36c3c3cae0fb5da853ead1942fb68c0", func := "roundtable/roundtablelaw20.InclusionIncludes", spec := "inclusionIncludes", unfollowed := true, recurses := true, plainKeys := false, apart := false }
def InclusionIncludesSaid : Prop := inclusionIncludesRow.holds Try.pinned (OpenSpec.ofChange inclusionIncludesSpec)

/-- ITS FALSE NEIGHBOUR: 'it returns false'. Refute it at one input. -/
def inclusionIncludesWrong : ChangeSpec := { name := "inclusionIncludes", fn := fun _ => fun
  | [d1, d2] => { results := [.lit (.bool false)], args := [d1, d2] }
  | _ => none }
def InclusionIncludesWrongFalsely : Prop := inclusionIncludesRow.holds Try.pinned (OpenSpec.ofChange inclusionIncludesWrong)

/-- 'roundtablelaw20.InclusionCompares': WHATEVER THE INPUT: true; the input reads as it did. -/
def inclusionComparesSpec : ChangeSpec := { name := "inclusionCompares", fn := fun _ => fun
  | [d1, d2] => { results := [.lit (.bool true)], args := [d1, d2] }
  | _ => none }
def inclusionComparesRow : OpenClaim := { program := "ytmkmgimmlohamaa", sum := "c17935ed6552a79ff1e202fdb1bd540ec36c3c3cae0fb5da853ead1942fb68c0", func := "roundtable/roundtablelaw20.InclusionCompares", spec := "inclusionCompares", unfollowed := true, recurses := true, plainKeys := false, apart := false }
def InclusionComparesSaid : Prop := inclusionComparesRow.holds Try.pinned (OpenSpec.ofChange inclusionComparesSpec)

/-- ITS FALSE NEIGHBOUR: 'it returns false'. Refute it at one input. -/
def inclusionComparesWrong : ChangeSpec := { name := "inclusionCompares", fn := fun _ => fun
  | [d1, d2] => { results := [.lit (.bool false)], args := [d1, d2] }
  | _ => none }
def InclusionComparesWrongFalsely : Prop := inclusionComparesRow.holds Try.pinned (OpenSpec.ofChange inclusionComparesWrong)

/-- 'roundtablelaw20.InclusionVerifies': WHATEVER THE INPUT: true; the input reads as it did. -/
def inclusionVerifiesSpec : ChangeSpec := { name := "inclusionVerifies", fn := fun _ => fun
  | [d1, d2, d3] => { results := [.lit (.bool true)], args := [d1, d2, d3] }
  | _ => none }
def inclusionVerifiesRow : OpenClaim := { program := "ytmkmgimmlohamaa", sum := "c17935ed6552a79ff1e202fdb1bd540ec36c3c3cae0fb5da853ead1942fb68c0", func := "roundtable/roundtablelaw20.InclusionVerifies", spec := "inclusionVerifies", unfollowed := true, recurses := true, plainKeys := false, apart := false }
def InclusionVerifiesSaid : Prop := inclusionVerifiesRow.holds Try.pinned (OpenSpec.ofChange inclusionVerifiesSpec)

/-- ITS FALSE NEIGHBOUR: 'it returns false'. Refute it at one input. -/
def inclusionVerifiesWrong : ChangeSpec := { name := "inclusionVerifies", fn := fun _ => fun
  | [d1, d2, d3] => { results := [.lit (.bool false)], args := [d1, d2, d3] }
  | _ => none }
def InclusionVerifiesWrongFalsely : Prop := inclusionVerifiesRow.holds Try.pinned (OpenSpec.ofChange inclusionVerifiesWrong)

/-- 'roundtablelaw20.InclusionCounts': WHATEVER THE INPUT: true; the input reads as it did. -/
def inclusionCountsSpec : ChangeSpec := { name := "inclusionCounts", fn := fun _ => fun
  | [d1, d2, d3] => { results := [.lit (.bool true)], args := [d1, d2, d3] }
  | _ => none }
def inclusionCountsRow : OpenClaim := { program := "ytmkmgimmlohamaa", sum := "c17935ed6552a79ff1e202fdb1bd540ec36c3c3cae0fb5da853ead1942fb68c0", func := "roundtable/roundtablelaw20.InclusionCounts", spec := "inclusionCounts", unfollowed := true, recurses := true, plainKeys := false, apart := false }
def InclusionCountsSaid : Prop := inclusionCountsRow.holds Try.pinned (OpenSpec.ofChange inclusionCountsSpec)

/-- ITS FALSE NEIGHBOUR: 'it returns false'. Refute it at one input. -/
def inclusionCountsWrong : ChangeSpec := { name := "inclusionCounts", fn := fun _ => fun
  | [d1, d2, d3] => { results := [.lit (.bool false)], args := [d1, d2, d3] }
  | _ => none }
def InclusionCountsWrongFalsely : Prop := inclusionCountsRow.holds Try.pinned (OpenSpec.ofChange inclusionCountsWrong)

/-- 'roundtablelaw20.InclusionOrders': WHATEVER THE INPUT: true; the input reads as it did. -/
def inclusionOrdersSpec : ChangeSpec := { name := "inclusionOrders", fn := fun _ => fun
  | [d1, d2, d3] => { results := [.lit (.bool true)], args := [d1, d2, d3] }
  | _ => none }
def inclusionOrdersRow : OpenClaim := { program := "ytmkmgimmlohamaa", sum := "c17935ed6552a79ff1e202fdb1bd540ec36c3c3cae0fb5da853ead1942fb68c0", func := "roundtable/roundtablelaw20.InclusionOrders", spec := "inclusionOrders", unfollowed := true, recurses := true, plainKeys := false, apart := false }
def InclusionOrdersSaid : Prop := inclusionOrdersRow.holds Try.pinned (OpenSpec.ofChange inclusionOrdersSpec)

/-- ITS FALSE NEIGHBOUR: 'it returns false'. Refute it at one input. -/
def inclusionOrdersWrong : ChangeSpec := { name := "inclusionOrders", fn := fun _ => fun
  | [d1, d2, d3] => { results := [.lit (.bool false)], args := [d1, d2, d3] }
  | _ => none }
def InclusionOrdersWrongFalsely : Prop := inclusionOrdersRow.holds Try.pinned (OpenSpec.ofChange inclusionOrdersWrong)

/-- 'roundtablelaw20.InclusionShows': WHATEVER THE INPUT: true; the input reads as it did. -/
def inclusionShowsSpec : ChangeSpec := { name := "inclusionShows", fn := fun _ => fun
  | [d1, d2] => { results := [.lit (.bool true)], args := [d1, d2] }
  | _ => none }
def inclusionShowsRow : OpenClaim := { program := "ytmkmgimmlohamaa", sum := "c17935ed6552a79ff1e202fdb1bd540ec36c3c3cae0fb5da853ead1942fb68c0", func := "roundtable/roundtablelaw20.InclusionShows", spec := "inclusionShows", unfollowed := true, recurses := true, plainKeys := false, apart := false }
def InclusionShowsSaid : Prop := inclusionShowsRow.holds Try.pinned (OpenSpec.ofChange inclusionShowsSpec)

/-- ITS FALSE NEIGHBOUR: 'it returns false'. Refute it at one input. -/
def inclusionShowsWrong : ChangeSpec := { name := "inclusionShows", fn := fun _ => fun
  | [d1, d2] => { results := [.lit (.bool false)], args := [d1, d2] }
  | _ => none }
def InclusionShowsWrongFalsely : Prop := inclusionShowsRow.holds Try.pinned (OpenSpec.ofChange inclusionShowsWrong)

/-- 'roundtablelaw20.InclusionProves': WHATEVER THE INPUT: true; the input reads as it did. -/
def inclusionProvesSpec : ChangeSpec := { name := "inclusionProves", fn := fun _ => fun
  | [d1, d2, d3] => { results := [.lit (.bool true)], args := [d1, d2, d3] }
  | _ => none }
def inclusionProvesRow : OpenClaim := { program := "ytmkmgimmlohamaa", sum := "c17935ed6552a79ff1e202fdb1bd540ec36c3c3cae0fb5da853ead1942fb68c0", func := "roundtable/roundtablelaw20.InclusionProves", spec := "inclusionProves", unfollowed := true, recurses := true, plainKeys := false, apart := false }
def InclusionProvesSaid : Prop := inclusionProvesRow.holds Try.pinned (OpenSpec.ofChange inclusionProvesSpec)

/-- ITS FALSE NEIGHBOUR: 'it returns false'. Refute it at one input. -/
def inclusionProvesWrong : ChangeSpec := { name := "inclusionProves", fn := fun _ => fun
  | [d1, d2, d3] => { results := [.lit (.bool false)], args := [d1, d2, d3] }
  | _ => none }
def InclusionProvesWrongFalsely : Prop := inclusionProvesRow.holds Try.pinned (OpenSpec.ofChange inclusionProvesWrong)

/- THE SECOND FORM. 'bulk': how many values and letters a reading holds, each counted each time it is reached (what is shared counts as often as it is met; a slice's spare places count too). A statement '..UptoSaid' is the law's where the arguments, and the package variables that the reading takes, are together of bulk at most 1048576: NARROWER than '..Said'. Prove '..Said' where nothing that the law and all that it calls make is longer than what came in: it says more and counts as full. Else prove '..UptoSaid'. A law counts once. -/
mutual
def uptoBulk {H : Type} : DataW H → Nat
  | .lit (.string bytes) => bytes.length + 1
  | .lit _ => 1
  | .nil => 1
  | .ptr d => uptoBulk d + 1
  | .slice elems spare => uptoBulkAll elems + uptoBulkAll spare + 1
  | .agg parts => uptoBulkAll parts + 1
  | .iface _ d => uptoBulk d + 1
  | .map entries => uptoBulkEntries entries + 1
  | .held _ => 1
def uptoBulkAll {H : Type} : List (DataW H) → Nat
  | [] => 0
  | d :: r => uptoBulk d + uptoBulkAll r
def uptoBulkEntries {H : Type} : List (Lit × DataW H) → Nat
  | [] => 0
  | x :: r => uptoBulkEntry x + uptoBulkEntries r
def uptoBulkEntry {H : Type} : Lit × DataW H → Nat
  | (.string bytes, d) => bytes.length + uptoBulk d + 1
  | (_, d) => uptoBulk d + 1
 end
def uptoSmall : (H : Type) → List (DataW H) → Bool := fun _ ds => decide (uptoBulkAll ds ≤ 1048576)
def OpenSpec.upto (s : _root_.Go.ChangeSpec) : _root_.Go.OpenSpec := { _root_.Go.OpenSpec.ofChange s with cond := some uptoSmall }

/-- 'roundtablelaw20.InclusionIncludes', WHERE WHAT IT READS IS OF BULK AT MOST 1048576: true; the input reads as it did. -/
def inclusionIncludesUptoRow : OpenClaim := { program := "ytmkmgimmlohamaa", sum := "c17935ed6552a79ff1e202fdb1bd540ec36c3c3cae0fb5da853ead1942fb68c0", func := "roundtable/roundtablelaw20.InclusionIncludes", spec := "inclusionIncludes", unfollowed := true, recurses := true, plainKeys := false, apart := false, narrowed := true }
def InclusionIncludesUptoSaid : Prop := inclusionIncludesUptoRow.holds Try.pinned (OpenSpec.upto inclusionIncludesSpec)

/-- 'roundtablelaw20.InclusionCompares', WHERE WHAT IT READS IS OF BULK AT MOST 1048576: true; the input reads as it did. -/
def inclusionComparesUptoRow : OpenClaim := { program := "ytmkmgimmlohamaa", sum := "c17935ed6552a79ff1e202fdb1bd540ec36c3c3cae0fb5da853ead1942fb68c0", func := "roundtable/roundtablelaw20.InclusionCompares", spec := "inclusionCompares", unfollowed := true, recurses := true, plainKeys := false, apart := false, narrowed := true }
def InclusionComparesUptoSaid : Prop := inclusionComparesUptoRow.holds Try.pinned (OpenSpec.upto inclusionComparesSpec)

/-- 'roundtablelaw20.InclusionVerifies', WHERE WHAT IT READS IS OF BULK AT MOST 1048576: true; the input reads as it did. -/
def inclusionVerifiesUptoRow : OpenClaim := { program := "ytmkmgimmlohamaa", sum := "c17935ed6552a79ff1e202fdb1bd540ec36c3c3cae0fb5da853ead1942fb68c0", func := "roundtable/roundtablelaw20.InclusionVerifies", spec := "inclusionVerifies", unfollowed := true, recurses := true, plainKeys := false, apart := false, narrowed := true }
def InclusionVerifiesUptoSaid : Prop := inclusionVerifiesUptoRow.holds Try.pinned (OpenSpec.upto inclusionVerifiesSpec)

/-- 'roundtablelaw20.InclusionCounts', WHERE WHAT IT READS IS OF BULK AT MOST 1048576: true; the input reads as it did. -/
def inclusionCountsUptoRow : OpenClaim := { program := "ytmkmgimmlohamaa", sum := "c17935ed6552a79ff1e202fdb1bd540ec36c3c3cae0fb5da853ead1942fb68c0", func := "roundtable/roundtablelaw20.InclusionCounts", spec := "inclusionCounts", unfollowed := true, recurses := true, plainKeys := false, apart := false, narrowed := true }
def InclusionCountsUptoSaid : Prop := inclusionCountsUptoRow.holds Try.pinned (OpenSpec.upto inclusionCountsSpec)

/-- 'roundtablelaw20.InclusionOrders', WHERE WHAT IT READS IS OF BULK AT MOST 1048576: true; the input reads as it did. -/
def inclusionOrdersUptoRow : OpenClaim := { program := "ytmkmgimmlohamaa", sum := "c17935ed6552a79ff1e202fdb1bd540ec36c3c3cae0fb5da853ead1942fb68c0", func := "roundtable/roundtablelaw20.InclusionOrders", spec := "inclusionOrders", unfollowed := true, recurses := true, plainKeys := false, apart := false, narrowed := true }
def InclusionOrdersUptoSaid : Prop := inclusionOrdersUptoRow.holds Try.pinned (OpenSpec.upto inclusionOrdersSpec)

/-- 'roundtablelaw20.InclusionShows', WHERE WHAT IT READS IS OF BULK AT MOST 1048576: true; the input reads as it did. -/
def inclusionShowsUptoRow : OpenClaim := { program := "ytmkmgimmlohamaa", sum := "c17935ed6552a79ff1e202fdb1bd540ec36c3c3cae0fb5da853ead1942fb68c0", func := "roundtable/roundtablelaw20.InclusionShows", spec := "inclusionShows", unfollowed := true, recurses := true, plainKeys := false, apart := false, narrowed := true }
def InclusionShowsUptoSaid : Prop := inclusionShowsUptoRow.holds Try.pinned (OpenSpec.upto inclusionShowsSpec)

/-- 'roundtablelaw20.InclusionProves', WHERE WHAT IT READS IS OF BULK AT MOST 1048576: true; the input reads as it did. -/
def inclusionProvesUptoRow : OpenClaim := { program := "ytmkmgimmlohamaa", sum := "c17935ed6552a79ff1e202fdb1bd540ec36c3c3cae0fb5da853ead1942fb68c0", func := "roundtable/roundtablelaw20.InclusionProves", spec := "inclusionProves", unfollowed := true, recurses := true, plainKeys := false, apart := false, narrowed := true }
def InclusionProvesUptoSaid : Prop := inclusionProvesUptoRow.holds Try.pinned (OpenSpec.upto inclusionProvesSpec)

end Rows
end Go.Proofs.Ytmkmgimmlohamaa
