/-
  FrameAcks, proved for all tapes.
-/
import Derived.Test.YtohfnlkjdjmipaaMF6
import Derived.Test.YtohfnlkjdjmipaaLwFrameAcks
namespace Go.Proofs.Ytohfnlkjdjmipaa
open Go.RowKit
theorem frameAcks_holds : Rows.FrameAcksSaid := frameAcks_of fun t _ => acks_law t
#print axioms frameAcks_holds
end Go.Proofs.Ytohfnlkjdjmipaa
