/-
  ReportsMerge: ValidReports, Report and Merge return what the chapter says. Proved for all lists, records and tapes.
-/
import Derived.Test.YtcjoflgnifafiaaMR4
import Derived.Test.YtcjoflgnifafiaaLwReportsMerge
namespace Go.Proofs.Ytcjoflgnifafiaa
open Go.RowKit
theorem reportsMerge_holds : Rows.ReportsMergeSaid := reportsMerge_of fun p q d t hp hq hd _ => by
  have hn := hd.1
  simp [wfI, Lit.wf, IntKind.min, IntKind.max, IntKind.bits, IntKind.signed] at hn
  exact merge_law (wfL'_of hp) (wfL'_of hq) (by have := hp.1; unfold maxLen at this; omega) (by have := hq.1; unfold maxLen at this; omega) (by omega) (okB_wf hd.2.2.2) t
#print axioms reportsMerge_holds
end Go.Proofs.Ytcjoflgnifafiaa
