/-
  SettingsEncode: EncodeSettings and DecodeSettings return what the chapter says and undo one another. Proved for all settings, byte strings, keys and tapes.
-/
import Derived.Test.YtcjoflgnifafiaaMS3
import Derived.Test.YtcjoflgnifafiaaLwSettingsEncode
namespace Go.Proofs.Ytcjoflgnifafiaa
open Go.RowKit
theorem settingsEncode_holds : Rows.SettingsEncodeSaid := settingsEncode_of fun raw b k t hraw hb hk _ => by
  by_cases c1 : (raw.Data.length : Int) > 200
  · unfold F_law39_SettingsEncode; rw [decT c1, known_true]; rfl
  by_cases c2 : (b.length : Int) > 200
  · unfold F_law39_SettingsEncode; rw [decF c1, decT c2, known_true]; rfl
  exact encode_law (wfS_of hraw.2.1 hraw.2.2 c1) (okB_wf hb.2) c2 hk.1 (okB_wf hk.2) t c1
#print axioms settingsEncode_holds
end Go.Proofs.Ytcjoflgnifafiaa
