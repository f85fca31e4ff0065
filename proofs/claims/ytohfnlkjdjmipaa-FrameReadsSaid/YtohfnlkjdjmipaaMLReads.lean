/-
  FrameReads, proved for all lists of bytes and tapes.
-/
import Derived.Test.YtohfnlkjdjmipaaMF13
import Derived.Test.YtohfnlkjdjmipaaLwFrameReads
namespace Go.Proofs.Ytohfnlkjdjmipaa
open Go.RowKit
theorem frameReads_holds : Rows.FrameReadsSaid := frameReads_of fun _ t a y c h _ _ _ _ => reads_law (okB_wf h.2) h.1 t a y c
#print axioms frameReads_holds
end Go.Proofs.Ytohfnlkjdjmipaa
