/-
  No cell of these rows narrows 'for every input' (looked for: loops, veiled, ifaces, maps, wideKeys, modest, calm, conditions, laid).
  DERIVED. THE GIVEN ROWS OF THIS SEAT. 4 by the template 'for every input the law returns true; each argument reads behind the call as it read before'; 0 by the template 'total and deterministic' (their statements: YtdlhnpogddpmpaaGreatTotals.lean).
  GIVEN WITH THE SEED: the statements are not yours to turn. If you find one false, say at which input.
  Laid BY PROGRAM, IN A SANDBOX (cutbox-rows.mjs): the forced cells as the released guide's own fill.sh prints them over the translation 0d071ab76472ad06… (all of the seat's roots in one cut). By AI agents, Wed Nov 11 2026. No macro, syntax, notation, axiom, sorry.
-/
import Derived.Test.YtdlhnpogddpmpaaGreatChecked
import GoSem.Claim
import GoSem.ClaimJoined
import GoSem.ClaimMapViews
import Derived.JoinedTies
import Derived.KernelRfl
namespace Go.Proofs.YtdlhnpogddpmpaaGreat
/- THE CELL 'sum', in the pinned program and in every row, IS THE sha256 OF THE DUMP (.gsa) THAT YtdlhnpogddpmpaaGreatProg.lean LOADS. Nothing in Lean hashes anything: it is a label: what it is worth is what the hold of that sum in a sandbox is worth. -/
noncomputable def Tryz.pinned : Pinned := { name := "ytdlhnpogddpmpaagreat", sum := "0d071ab76472ad0650ae27d866714eeae1076428fd7027983d4175e5637f4838", checked := Tryz.checked }
namespace Rows
def none {H : Type} : Left H := { results := [], args := [] }

/-- 'roundtablelaw17.FailureOmits': WHATEVER THE INPUT: true; the input reads as it did. -/
def failureOmitsSpec : ChangeSpec := { name := "failureOmits", fn := fun _ => fun
  | [d1, d2] => { results := [.lit (.bool true)], args := [d1, d2] }
  | _ => none }
def failureOmitsRow : OpenClaim := { program := "ytdlhnpogddpmpaagreat", sum := "0d071ab76472ad0650ae27d866714eeae1076428fd7027983d4175e5637f4838", func := "roundtable/roundtablelaw17.FailureOmits", spec := "failureOmits", unfollowed := true, recurses := true, plainKeys := false, apart := false }
def FailureOmitsSaid : Prop := failureOmitsRow.holds Tryz.pinned (OpenSpec.ofChange failureOmitsSpec)

/-- ITS FALSE NEIGHBOUR: 'it returns false'. Refute it at one input. -/
def failureOmitsWrong : ChangeSpec := { name := "failureOmits", fn := fun _ => fun
  | [d1, d2] => { results := [.lit (.bool false)], args := [d1, d2] }
  | _ => none }
def FailureOmitsWrongFalsely : Prop := failureOmitsRow.holds Tryz.pinned (OpenSpec.ofChange failureOmitsWrong)

/-- 'roundtablelaw17.FailureImplies': WHATEVER THE INPUT: true; the input reads as it did. -/
def failureImpliesSpec : ChangeSpec := { name := "failureImplies", fn := fun _ => fun
  | [d1, d2, d3] => { results := [.lit (.bool true)], args := [d1, d2, d3] }
  | _ => none }
def failureImpliesRow : OpenClaim := { program := "ytdlhnpogddpmpaagreat", sum := "0d071ab76472ad0650ae27d866714eeae1076428fd7027983d4175e5637f4838", func := "roundtable/roundtablelaw17.FailureImplies", spec := "failureImplies", unfollowed := true, recurses := true, plainKeys := false, apart := false }
def FailureImpliesSaid : Prop := failureImpliesRow.holds Tryz.pinned (OpenSpec.ofChange failureImpliesSpec)

/-- ITS FALSE NEIGHBOUR: 'it returns false'. Refute it at one input. -/
def failureImpliesWrong : ChangeSpec := { name := "failureImplies", fn := fun _ => fun
  | [d1, d2, d3] => { results := [.lit (.bool false)], args := [d1, d2, d3] }
  | _ => none }
def FailureImpliesWrongFalsely : Prop := failureImpliesRow.holds Tryz.pinned (OpenSpec.ofChange failureImpliesWrong)

/-- 'roundtablelaw17.FailureGrows': WHATEVER THE INPUT: true; the input reads as it did. -/
def failureGrowsSpec : ChangeSpec := { name := "failureGrows", fn := fun _ => fun
  | [d1, d2] => { results := [.lit (.bool true)], args := [d1, d2] }
  | _ => none }
def failureGrowsRow : OpenClaim := { program := "ytdlhnpogddpmpaagreat", sum := "0d071ab76472ad0650ae27d866714eeae1076428fd7027983d4175e5637f4838", func := "roundtable/roundtablelaw17.FailureGrows", spec := "failureGrows", unfollowed := true, recurses := true, plainKeys := false, apart := false }
def FailureGrowsSaid : Prop := failureGrowsRow.holds Tryz.pinned (OpenSpec.ofChange failureGrowsSpec)

/-- ITS FALSE NEIGHBOUR: 'it returns false'. Refute it at one input. -/
def failureGrowsWrong : ChangeSpec := { name := "failureGrows", fn := fun _ => fun
  | [d1, d2] => { results := [.lit (.bool false)], args := [d1, d2] }
  | _ => none }
def FailureGrowsWrongFalsely : Prop := failureGrowsRow.holds Tryz.pinned (OpenSpec.ofChange failureGrowsWrong)

/-- 'roundtablelaw17.FailureRenames': WHATEVER THE INPUT: true; the input reads as it did. -/
def failureRenamesSpec : ChangeSpec := { name := "failureRenames", fn := fun _ => fun
  | [d1, d2, d3] => { results := [.lit (.bool true)], args := [d1, d2, d3] }
  | _ => none }
def failureRenamesRow : OpenClaim := { program := "ytdlhnpogddpmpaagreat", sum := "0d071ab76472ad0650ae27d866714eeae1076428fd7027983d4175e5637f4838", func := "roundtable/roundtablelaw17.FailureRenames", spec := "failureRenames", unfollowed := true, recurses := true, plainKeys := false, apart := false }
def FailureRenamesSaid : Prop := failureRenamesRow.holds Tryz.pinned (OpenSpec.ofChange failureRenamesSpec)

/-- ITS FALSE NEIGHBOUR: 'it returns false'. Refute it at one input. -/
def failureRenamesWrong : ChangeSpec := { name := "failureRenames", fn := fun _ => fun
  | [d1, d2, d3] => { results := [.lit (.bool false)], args := [d1, d2, d3] }
  | _ => none }
def FailureRenamesWrongFalsely : Prop := failureRenamesRow.holds Tryz.pinned (OpenSpec.ofChange failureRenamesWrong)

/- THE SECOND FORM. 'bulk': how many values and letters a reading holds, each counted each time it is reached (what is shared counts as often as it is met; a slice's spare places count too). A statement '..UptoSaid' is the law's where the arguments, and the package variables that the reading takes, are together of bulk at most 1048576: NARROWER than '..Said'. Prove '..Said' where nothing that the law and all that it calls make is longer than what came in: it says more and counts as full. Else prove '..UptoSaid'. A law counts once. -/
mutual
def uptoBulk {H : Type} : DataW H → Nat
  | .lit (.string bytes) => bytes.length + 1
  | .lit _ => 1
  | .nil => 1
  | .ptr d => uptoBulk d + 1
  | .slice elems spare => uptoBulkAll elems + uptoBulkAll spare + 1
  | .agg parts => uptoBulkAll parts + 1
  | .iface _ d => uptoBulk d + 1
  | .map entries => uptoBulkEntries entries + 1
  | .held _ => 1
def uptoBulkAll {H : Type} : List (DataW H) → Nat
  | [] => 0
  | d :: r => uptoBulk d + uptoBulkAll r
def uptoBulkEntries {H : Type} : List (Lit × DataW H) → Nat
  | [] => 0
  | x :: r => uptoBulkEntry x + uptoBulkEntries r
def uptoBulkEntry {H : Type} : Lit × DataW H → Nat
  | (.string bytes, d) => bytes.length + uptoBulk d + 1
  | (_, d) => uptoBulk d + 1
 end
def uptoSmall : (H : Type) → List (DataW H) → Bool := fun _ ds => decide (uptoBulkAll ds ≤ 1048576)
def OpenSpec.upto (s : _root_.Go.ChangeSpec) : _root_.Go.OpenSpec := { _root_.Go.OpenSpec.ofChange s with cond := some uptoSmall }

/-- 'roundtablelaw17.FailureOmits', WHERE WHAT IT READS IS OF BULK AT MOST 1048576: true; the input reads as it did. -/
def failureOmitsUptoRow : OpenClaim := { program := "ytdlhnpogddpmpaagreat", sum := "0d071ab76472ad0650ae27d866714eeae1076428fd7027983d4175e5637f4838", func := "roundtable/roundtablelaw17.FailureOmits", spec := "failureOmits", unfollowed := true, recurses := true, plainKeys := false, apart := false, narrowed := true }
def FailureOmitsUptoSaid : Prop := failureOmitsUptoRow.holds Tryz.pinned (OpenSpec.upto failureOmitsSpec)

/-- 'roundtablelaw17.FailureImplies', WHERE WHAT IT READS IS OF BULK AT MOST 1048576: true; the input reads as it did. -/
def failureImpliesUptoRow : OpenClaim := { program := "ytdlhnpogddpmpaagreat", sum := "0d071ab76472ad0650ae27d866714eeae1076428fd7027983d4175e5637f4838", func := "roundtable/roundtablelaw17.FailureImplies", spec := "failureImplies", unfollowed := true, recurses := true, plainKeys := false, apart := false, narrowed := true }
def FailureImpliesUptoSaid : Prop := failureImpliesUptoRow.holds Tryz.pinned (OpenSpec.upto failureImpliesSpec)

/-- 'roundtablelaw17.FailureGrows', WHERE WHAT IT READS IS OF BULK AT MOST 1048576: true; the input reads as it did. -/
def failureGrowsUptoRow : OpenClaim := { program := "ytdlhnpogddpmpaagreat", sum := "0d071ab76472ad0650ae27d866714eeae1076428fd7027983d4175e5637f4838", func := "roundtable/roundtablelaw17.FailureGrows", spec := "failureGrows", unfollowed := true, recurses := true, plainKeys := false, apart := false, narrowed := true }
def FailureGrowsUptoSaid : Prop := failureGrowsUptoRow.holds Tryz.pinned (OpenSpec.upto failureGrowsSpec)

/-- 'roundtablelaw17.FailureRenames', WHERE WHAT IT READS IS OF BULK AT MOST 1048576: true; the input reads as it did. -/
def failureRenamesUptoRow : OpenClaim := { program := "ytdlhnpogddpmpaagreat", sum := "0d071ab76472ad0650ae27d866714eeae1076428fd7027983d4175e5637f4838", func := "roundtable/roundtablelaw17.FailureRenames", spec := "failureRenames", unfollowed := true, recurses := true, plainKeys := false, apart := false, narrowed := true }
def FailureRenamesUptoSaid : Prop := failureRenamesUptoRow.holds Tryz.pinned (OpenSpec.upto failureRenamesSpec)

end Rows
end Go.Proofs.YtdlhnpogddpmpaaGreat
