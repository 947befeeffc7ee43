/-
  The laws FailureDivides and FailureCrashes: the walks.
  Conditions: none.
-/
import Derived.Test.YtdlhnpogddpmpaaGreatFailAX
import Derived.Test.YtdlhnpogddpmpaaGreatFailOc
import Derived.Test.YtdlhnpogddpmpaaGreatSame2
namespace Go.Proofs.YtdlhnpogddpmpaaGreat
open Go.RowKit
attribute [local go_sem] Oper.semAt_some

theorem advEq_self (A : Adv) : advEq A A = true := decide_eq_true ⟨rfl, rfl⟩
end Go.Proofs.YtdlhnpogddpmpaaGreat
