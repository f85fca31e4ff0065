/-
  SettingsRise: the version of a node never goes back, and ends with the newest version that was signed. Proved for all keys and tapes.
-/
import Derived.Test.YtcjoflgnifafiaaMS2
import Derived.Test.YtcjoflgnifafiaaLwSettingsRise
namespace Go.Proofs.Ytcjoflgnifafiaa
open Go.RowKit
theorem settingsRise_holds : Rows.SettingsRiseSaid := settingsRise_of fun k t hk _ => rise_law hk.1 (okB_wf hk.2) t
#print axioms settingsRise_holds
end Go.Proofs.Ytcjoflgnifafiaa
