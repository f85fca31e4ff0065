/-
  ReportsJoin: Merge does not depend on the order and grouping of lists, and a list merged with itself stays as it is. Proved for all tapes.
-/
import Derived.Test.YtcjoflgnifafiaaMR3
import Derived.Test.YtcjoflgnifafiaaLwReportsJoin
namespace Go.Proofs.Ytcjoflgnifafiaa
open Go.RowKit
theorem reportsJoin_holds : Rows.ReportsJoinSaid := reportsJoin_of fun t _ => join_law t
#print axioms reportsJoin_holds
end Go.Proofs.Ytcjoflgnifafiaa
