/-
  FrameCanonical, proved for all lists of bytes and tapes.
-/
import Derived.Test.YtohfnlkjdjmipaaMF11
import Derived.Test.YtohfnlkjdjmipaaLwFrameCanonical
namespace Go.Proofs.Ytohfnlkjdjmipaa
open Go.RowKit
theorem frameCanonical_holds : Rows.FrameCanonicalSaid := frameCanonical_of fun _ t a y h _ _ _ => canon_law (okB_wf h.2) h.1 t a y
#print axioms frameCanonical_holds
end Go.Proofs.Ytohfnlkjdjmipaa
