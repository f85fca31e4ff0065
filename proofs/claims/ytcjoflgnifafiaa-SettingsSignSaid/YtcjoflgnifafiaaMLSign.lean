/-
  SettingsSign: Valid, Sign and Check return what the chapter says. Proved for all keys, versions, data, settings and tapes.
-/
import Derived.Test.YtcjoflgnifafiaaMS2
import Derived.Test.YtcjoflgnifafiaaLwSettingsSign
namespace Go.Proofs.Ytcjoflgnifafiaa
open Go.RowKit
theorem settingsSign_holds : Rows.SettingsSignSaid := settingsSign_of fun k v d raw t hk _ hd hraw _ => by
  by_cases c1 : (d.length : Int) > 200
  · unfold F_law39_SettingsSign; rw [decT c1, known_true]; rfl
  by_cases c2 : (raw.Data.length : Int) > 200
  · unfold F_law39_SettingsSign; rw [decF c1, decT c2, known_true]; rfl
  exact sign_law hk.1 (okB_wf hk.2) v (okB_wf hd.2) (wfS_of hraw.2.1 hraw.2.2 c2) t
#print axioms settingsSign_holds
end Go.Proofs.Ytcjoflgnifafiaa
