/-
  FrameBack, proved for all tapes.
-/
import Derived.Test.YtohfnlkjdjmipaaMF6
import Derived.Test.YtohfnlkjdjmipaaLwFrameBack
namespace Go.Proofs.Ytohfnlkjdjmipaa
open Go.RowKit
theorem frameBack_holds : Rows.FrameBackSaid := frameBack_of fun t _ => back_law t
#print axioms frameBack_holds
end Go.Proofs.Ytohfnlkjdjmipaa
