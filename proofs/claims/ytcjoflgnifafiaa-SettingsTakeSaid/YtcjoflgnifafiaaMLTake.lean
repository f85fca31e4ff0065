/-
  SettingsTake: Take returns what the chapter says. Proved for all settings, keys and tapes.
-/
import Derived.Test.YtcjoflgnifafiaaMS2
import Derived.Test.YtcjoflgnifafiaaLwSettingsTake
namespace Go.Proofs.Ytcjoflgnifafiaa
open Go.RowKit
theorem settingsTake_holds : Rows.SettingsTakeSaid := settingsTake_of fun own s k t _ hs hk _ => by
  by_cases c1 : (own.Data.length : Int) > 200
  · unfold F_law39_SettingsTake; rw [decT c1, known_true]; rfl
  by_cases c2 : (s.Data.length : Int) > 200
  · unfold F_law39_SettingsTake; rw [decF c1, decT c2, known_true]; rfl
  exact take_law (wfS_of hs.2.1 hs.2.2 c2) hk.1 (okB_wf hk.2) t
#print axioms settingsTake_holds
end Go.Proofs.Ytcjoflgnifafiaa
