/-
  ReportsEncode: EncodeReports and DecodeReports return what the chapter says. Proved for all lists, sizes, byte strings and tapes.
-/
import Derived.Test.YtcjoflgnifafiaaMR5
import Derived.Test.YtcjoflgnifafiaaLwReportsEncode
namespace Go.Proofs.Ytcjoflgnifafiaa
open Go.RowKit
theorem reportsEncode_holds : Rows.ReportsEncodeSaid := reportsEncode_of fun raw size b t hraw hsize hb _ => by
  simp [wfI, Lit.wf, IntKind.min, IntKind.max, IntKind.bits, IntKind.signed] at hsize
  exact rencode_law (wfL'_of hraw) (by have := hraw.1; unfold maxLen at this; omega) (by omega) (by omega) (okB_wf hb.2) t
#print axioms reportsEncode_holds
end Go.Proofs.Ytcjoflgnifafiaa
