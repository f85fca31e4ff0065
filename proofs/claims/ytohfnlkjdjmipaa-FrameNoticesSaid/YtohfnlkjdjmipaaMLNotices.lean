/-
  FrameNotices, proved for all tapes, places and patterns.
-/
import Derived.Test.YtohfnlkjdjmipaaMF8
import Derived.Test.YtohfnlkjdjmipaaLwFrameNotices
namespace Go.Proofs.Ytohfnlkjdjmipaa
open Go.RowKit
theorem frameNotices_holds : Rows.FrameNoticesSaid := frameNotices_of fun t a p _ _ hp => notices_law t a p hp
#print axioms frameNotices_holds
end Go.Proofs.Ytohfnlkjdjmipaa
