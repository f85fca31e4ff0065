/-
  No cell of these rows narrows 'for every input' (looked for: loops, veiled, ifaces, maps, wideKeys, modest, calm, conditions, laid).
  DERIVED. THE GIVEN ROWS OF THIS SEAT. 8 by the template 'for every input the law returns true; each argument reads behind the call as it read before'; 0 by the template 'total and deterministic' (their statements: YtcjoflgnifafiaaTotals.lean).
  GIVEN WITH THE SEED: the statements are not yours to turn. If you find one false, say at which input.
  Laid BY PROGRAM, IN A SANDBOX (cutbox-rows.mjs): the forced cells as the released guide's own fill.sh prints them over the translation 0afbb07657da05e9… (all of the seat's roots in one cut). By AI agents, Wed Nov 11 2026. No macro, syntax, notation, axiom, sorry.
-/
import Derived.Test.YtcjoflgnifafiaaChecked
import GoSem.Claim
import GoSem.ClaimJoined
import GoSem.ClaimMapViews
import Derived.JoinedTies
import Derived.KernelRfl
namespace Go.Proofs.Ytcjoflgnifafiaa
/- THE CELL 'sum', in the pinned program and in every row, IS THE sha256 OF THE DUMP (.gsa) THAT YtcjoflgnifafiaaProg.lean LOADS. Nothing in Lean hashes anything: it is a label: what it is worth is what the hold of that sum in a sandbox is worth. -/
noncomputable def Try.pinned : Pinned := { name := "ytcjoflgnifafiaa", sum := "0afbb07657da05e909fb494ba221136c2f5da5e8f42d1c9c1dfd10529aa9fbb2", checked := Try.checked }
namespace Rows
def none {H : Type} : Left H := { results := [], args := [] }

/-- 'multihoplaw39.SettingsRise': WHATEVER THE INPUT: true; the input reads as it did. -/
def settingsRiseSpec : ChangeSpec := { name := "settingsRise", fn := fun _ => fun
  | [d1, d2] => { results := [.lit (.bool true)], args := [d1, d2] }
  | _ => none }
def settingsRiseRow : OpenClaim := { program := "ytcjoflgnifafiaa", sum := "0afbb07657da05e909fb494ba221136c2f5da5e8f42d1c9c1dfd10529aa9fbb2", func := "multihop/multihoplaw39.SettingsRise", spec := "settingsRise", inPlace := ["internal/bytealg.Compare"], apart := false }
def SettingsRiseSaid : Prop := settingsRiseRow.holds Try.pinned (OpenSpec.ofChange settingsRiseSpec)

/-- ITS FALSE NEIGHBOUR: 'it returns false'. Refute it at one input. -/
def settingsRiseWrong : ChangeSpec := { name := "settingsRise", fn := fun _ => fun
  | [d1, d2] => { results := [.lit (.bool false)], args := [d1, d2] }
  | _ => none }
def SettingsRiseWrongFalsely : Prop := settingsRiseRow.holds Try.pinned (OpenSpec.ofChange settingsRiseWrong)

/-- 'multihoplaw39.SettingsSign': WHATEVER THE INPUT: true; the input reads as it did. -/
def settingsSignSpec : ChangeSpec := { name := "settingsSign", fn := fun _ => fun
  | [d1, d2, d3, d4, d5] => { results := [.lit (.bool true)], args := [d1, d2, d3, d4, d5] }
  | _ => none }
def settingsSignRow : OpenClaim := { program := "ytcjoflgnifafiaa", sum := "0afbb07657da05e909fb494ba221136c2f5da5e8f42d1c9c1dfd10529aa9fbb2", func := "multihop/multihoplaw39.SettingsSign", spec := "settingsSign", inPlace := ["internal/bytealg.Compare"], apart := false }
def SettingsSignSaid : Prop := settingsSignRow.holds Try.pinned (OpenSpec.ofChange settingsSignSpec)

/-- ITS FALSE NEIGHBOUR: 'it returns false'. Refute it at one input. -/
def settingsSignWrong : ChangeSpec := { name := "settingsSign", fn := fun _ => fun
  | [d1, d2, d3, d4, d5] => { results := [.lit (.bool false)], args := [d1, d2, d3, d4, d5] }
  | _ => none }
def SettingsSignWrongFalsely : Prop := settingsSignRow.holds Try.pinned (OpenSpec.ofChange settingsSignWrong)

/-- 'multihoplaw39.SettingsTake': WHATEVER THE INPUT: true; the input reads as it did. -/
def settingsTakeSpec : ChangeSpec := { name := "settingsTake", fn := fun _ => fun
  | [d1, d2, d3, d4] => { results := [.lit (.bool true)], args := [d1, d2, d3, d4] }
  | _ => none }
def settingsTakeRow : OpenClaim := { program := "ytcjoflgnifafiaa", sum := "0afbb07657da05e909fb494ba221136c2f5da5e8f42d1c9c1dfd10529aa9fbb2", func := "multihop/multihoplaw39.SettingsTake", spec := "settingsTake", inPlace := ["internal/bytealg.Compare"], apart := false }
def SettingsTakeSaid : Prop := settingsTakeRow.holds Try.pinned (OpenSpec.ofChange settingsTakeSpec)

/-- ITS FALSE NEIGHBOUR: 'it returns false'. Refute it at one input. -/
def settingsTakeWrong : ChangeSpec := { name := "settingsTake", fn := fun _ => fun
  | [d1, d2, d3, d4] => { results := [.lit (.bool false)], args := [d1, d2, d3, d4] }
  | _ => none }
def SettingsTakeWrongFalsely : Prop := settingsTakeRow.holds Try.pinned (OpenSpec.ofChange settingsTakeWrong)

/-- 'multihoplaw39.ReportsJoin': WHATEVER THE INPUT: true; the input reads as it did. -/
def reportsJoinSpec : ChangeSpec := { name := "reportsJoin", fn := fun _ => fun
  | [d] => { results := [.lit (.bool true)], args := [d] }
  | _ => none }
def reportsJoinRow : OpenClaim := { program := "ytcjoflgnifafiaa", sum := "0afbb07657da05e909fb494ba221136c2f5da5e8f42d1c9c1dfd10529aa9fbb2", func := "multihop/multihoplaw39.ReportsJoin", spec := "reportsJoin", inPlace := ["internal/bytealg.Compare"], unfollowed := true, recurses := true, apart := false }
def ReportsJoinSaid : Prop := reportsJoinRow.holds Try.pinned (OpenSpec.ofChange reportsJoinSpec)

/-- ITS FALSE NEIGHBOUR: 'it returns false'. Refute it at one input. -/
def reportsJoinWrong : ChangeSpec := { name := "reportsJoin", fn := fun _ => fun
  | [d] => { results := [.lit (.bool false)], args := [d] }
  | _ => none }
def ReportsJoinWrongFalsely : Prop := reportsJoinRow.holds Try.pinned (OpenSpec.ofChange reportsJoinWrong)

/-- 'multihoplaw39.ReportsMerge': WHATEVER THE INPUT: true; the input reads as it did. -/
def reportsMergeSpec : ChangeSpec := { name := "reportsMerge", fn := fun _ => fun
  | [d1, d2, d3, d4] => { results := [.lit (.bool true)], args := [d1, d2, d3, d4] }
  | _ => none }
def reportsMergeRow : OpenClaim := { program := "ytcjoflgnifafiaa", sum := "0afbb07657da05e909fb494ba221136c2f5da5e8f42d1c9c1dfd10529aa9fbb2", func := "multihop/multihoplaw39.ReportsMerge", spec := "reportsMerge", inPlace := ["internal/bytealg.Compare"], unfollowed := true, recurses := true, apart := false }
def ReportsMergeSaid : Prop := reportsMergeRow.holds Try.pinned (OpenSpec.ofChange reportsMergeSpec)

/-- ITS FALSE NEIGHBOUR: 'it returns false'. Refute it at one input. -/
def reportsMergeWrong : ChangeSpec := { name := "reportsMerge", fn := fun _ => fun
  | [d1, d2, d3, d4] => { results := [.lit (.bool false)], args := [d1, d2, d3, d4] }
  | _ => none }
def ReportsMergeWrongFalsely : Prop := reportsMergeRow.holds Try.pinned (OpenSpec.ofChange reportsMergeWrong)

/-- 'multihoplaw39.SettingsEncode': WHATEVER THE INPUT: true; the input reads as it did. -/
def settingsEncodeSpec : ChangeSpec := { name := "settingsEncode", fn := fun _ => fun
  | [d1, d2, d3, d4] => { results := [.lit (.bool true)], args := [d1, d2, d3, d4] }
  | _ => none }
def settingsEncodeRow : OpenClaim := { program := "ytcjoflgnifafiaa", sum := "0afbb07657da05e909fb494ba221136c2f5da5e8f42d1c9c1dfd10529aa9fbb2", func := "multihop/multihoplaw39.SettingsEncode", spec := "settingsEncode", inPlace := ["internal/bytealg.Compare"], apart := false }
def SettingsEncodeSaid : Prop := settingsEncodeRow.holds Try.pinned (OpenSpec.ofChange settingsEncodeSpec)

/-- ITS FALSE NEIGHBOUR: 'it returns false'. Refute it at one input. -/
def settingsEncodeWrong : ChangeSpec := { name := "settingsEncode", fn := fun _ => fun
  | [d1, d2, d3, d4] => { results := [.lit (.bool false)], args := [d1, d2, d3, d4] }
  | _ => none }
def SettingsEncodeWrongFalsely : Prop := settingsEncodeRow.holds Try.pinned (OpenSpec.ofChange settingsEncodeWrong)

/-- 'multihoplaw39.ReportsEncode': WHATEVER THE INPUT: true; the input reads as it did. -/
def reportsEncodeSpec : ChangeSpec := { name := "reportsEncode", fn := fun _ => fun
  | [d1, d2, d3, d4] => { results := [.lit (.bool true)], args := [d1, d2, d3, d4] }
  | _ => none }
def reportsEncodeRow : OpenClaim := { program := "ytcjoflgnifafiaa", sum := "0afbb07657da05e909fb494ba221136c2f5da5e8f42d1c9c1dfd10529aa9fbb2", func := "multihop/multihoplaw39.ReportsEncode", spec := "reportsEncode", inPlace := ["internal/bytealg.Compare"], unfollowed := true, recurses := true, apart := false }
def ReportsEncodeSaid : Prop := reportsEncodeRow.holds Try.pinned (OpenSpec.ofChange reportsEncodeSpec)

/-- ITS FALSE NEIGHBOUR: 'it returns false'. Refute it at one input. -/
def reportsEncodeWrong : ChangeSpec := { name := "reportsEncode", fn := fun _ => fun
  | [d1, d2, d3, d4] => { results := [.lit (.bool false)], args := [d1, d2, d3, d4] }
  | _ => none }
def ReportsEncodeWrongFalsely : Prop := reportsEncodeRow.holds Try.pinned (OpenSpec.ofChange reportsEncodeWrong)

/-- 'multihoplaw39.ReportsCollect': WHATEVER THE INPUT: true; the input reads as it did. -/
def reportsCollectSpec : ChangeSpec := { name := "reportsCollect", fn := fun _ => fun
  | [d1, d2] => { results := [.lit (.bool true)], args := [d1, d2] }
  | _ => none }
def reportsCollectRow : OpenClaim := { program := "ytcjoflgnifafiaa", sum := "0afbb07657da05e909fb494ba221136c2f5da5e8f42d1c9c1dfd10529aa9fbb2", func := "multihop/multihoplaw39.ReportsCollect", spec := "reportsCollect", inPlace := ["internal/bytealg.Compare"], unfollowed := true, recurses := true, apart := false }
def ReportsCollectSaid : Prop := reportsCollectRow.holds Try.pinned (OpenSpec.ofChange reportsCollectSpec)

/-- ITS FALSE NEIGHBOUR: 'it returns false'. Refute it at one input. -/
def reportsCollectWrong : ChangeSpec := { name := "reportsCollect", fn := fun _ => fun
  | [d1, d2] => { results := [.lit (.bool false)], args := [d1, d2] }
  | _ => none }
def ReportsCollectWrongFalsely : Prop := reportsCollectRow.holds Try.pinned (OpenSpec.ofChange reportsCollectWrong)

/- THE SECOND FORM. 'bulk': how many values and letters a reading holds, each counted each time it is reached (what is shared counts as often as it is met; a slice's spare places count too). A statement '..UptoSaid' is the law's where the arguments, and the package variables that the reading takes, are together of bulk at most 1048576: NARROWER than '..Said'. Prove '..Said' where nothing that the law and all that it calls make is longer than what came in: it says more and counts as full. Else prove '..UptoSaid'. A law counts once. -/
mutual
def uptoBulk {H : Type} : DataW H → Nat
  | .lit (.string bytes) => bytes.length + 1
  | .lit _ => 1
  | .nil => 1
  | .ptr d => uptoBulk d + 1
  | .slice elems spare => uptoBulkAll elems + uptoBulkAll spare + 1
  | .agg parts => uptoBulkAll parts + 1
  | .iface _ d => uptoBulk d + 1
  | .map entries => uptoBulkEntries entries + 1
  | .held _ => 1
def uptoBulkAll {H : Type} : List (DataW H) → Nat
  | [] => 0
  | d :: r => uptoBulk d + uptoBulkAll r
def uptoBulkEntries {H : Type} : List (Lit × DataW H) → Nat
  | [] => 0
  | x :: r => uptoBulkEntry x + uptoBulkEntries r
def uptoBulkEntry {H : Type} : Lit × DataW H → Nat
  | (.string bytes, d) => bytes.length + uptoBulk d + 1
  | (_, d) => uptoBulk d + 1
 end
def uptoSmall : (H : Type) → List (DataW H) → Bool := fun _ ds => decide (uptoBulkAll ds ≤ 1048576)
def OpenSpec.upto (s : _root_.Go.ChangeSpec) : _root_.Go.OpenSpec := { _root_.Go.OpenSpec.ofChange s with cond := some uptoSmall }

/-- 'multihoplaw39.SettingsRise', WHERE WHAT IT READS IS OF BULK AT MOST 1048576: true; the input reads as it did. -/
def settingsRiseUptoRow : OpenClaim := { program := "ytcjoflgnifafiaa", sum := "0afbb07657da05e909fb494ba221136c2f5da5e8f42d1c9c1dfd10529aa9fbb2", func := "multihop/multihoplaw39.SettingsRise", spec := "settingsRise", inPlace := ["internal/bytealg.Compare"], apart := false, narrowed := true }
def SettingsRiseUptoSaid : Prop := settingsRiseUptoRow.holds Try.pinned (OpenSpec.upto settingsRiseSpec)

/-- 'multihoplaw39.SettingsSign', WHERE WHAT IT READS IS OF BULK AT MOST 1048576: true; the input reads as it did. -/
def settingsSignUptoRow : OpenClaim := { program := "ytcjoflgnifafiaa", sum := "0afbb07657da05e909fb494ba221136c2f5da5e8f42d1c9c1dfd10529aa9fbb2", func := "multihop/multihoplaw39.SettingsSign", spec := "settingsSign", inPlace := ["internal/bytealg.Compare"], apart := false, narrowed := true }
def SettingsSignUptoSaid : Prop := settingsSignUptoRow.holds Try.pinned (OpenSpec.upto settingsSignSpec)

/-- 'multihoplaw39.SettingsTake', WHERE WHAT IT READS IS OF BULK AT MOST 1048576: true; the input reads as it did. -/
def settingsTakeUptoRow : OpenClaim := { program := "ytcjoflgnifafiaa", sum := "0afbb07657da05e909fb494ba221136c2f5da5e8f42d1c9c1dfd10529aa9fbb2", func := "multihop/multihoplaw39.SettingsTake", spec := "settingsTake", inPlace := ["internal/bytealg.Compare"], apart := false, narrowed := true }
def SettingsTakeUptoSaid : Prop := settingsTakeUptoRow.holds Try.pinned (OpenSpec.upto settingsTakeSpec)

/-- 'multihoplaw39.ReportsJoin', WHERE WHAT IT READS IS OF BULK AT MOST 1048576: true; the input reads as it did. -/
def reportsJoinUptoRow : OpenClaim := { program := "ytcjoflgnifafiaa", sum := "0afbb07657da05e909fb494ba221136c2f5da5e8f42d1c9c1dfd10529aa9fbb2", func := "multihop/multihoplaw39.ReportsJoin", spec := "reportsJoin", inPlace := ["internal/bytealg.Compare"], unfollowed := true, recurses := true, apart := false, narrowed := true }
def ReportsJoinUptoSaid : Prop := reportsJoinUptoRow.holds Try.pinned (OpenSpec.upto reportsJoinSpec)

/-- 'multihoplaw39.ReportsMerge', WHERE WHAT IT READS IS OF BULK AT MOST 1048576: true; the input reads as it did. -/
def reportsMergeUptoRow : OpenClaim := { program := "ytcjoflgnifafiaa", sum := "0afbb07657da05e909fb494ba221136c2f5da5e8f42d1c9c1dfd10529aa9fbb2", func := "multihop/multihoplaw39.ReportsMerge", spec := "reportsMerge", inPlace := ["internal/bytealg.Compare"], unfollowed := true, recurses := true, apart := false, narrowed := true }
def ReportsMergeUptoSaid : Prop := reportsMergeUptoRow.holds Try.pinned (OpenSpec.upto reportsMergeSpec)

/-- 'multihoplaw39.SettingsEncode', WHERE WHAT IT READS IS OF BULK AT MOST 1048576: true; the input reads as it did. -/
def settingsEncodeUptoRow : OpenClaim := { program := "ytcjoflgnifafiaa", sum := "0afbb07657da05e909fb494ba221136c2f5da5e8f42d1c9c1dfd10529aa9fbb2", func := "multihop/multihoplaw39.SettingsEncode", spec := "settingsEncode", inPlace := ["internal/bytealg.Compare"], apart := false, narrowed := true }
def SettingsEncodeUptoSaid : Prop := settingsEncodeUptoRow.holds Try.pinned (OpenSpec.upto settingsEncodeSpec)

/-- 'multihoplaw39.ReportsEncode', WHERE WHAT IT READS IS OF BULK AT MOST 1048576: true; the input reads as it did. -/
def reportsEncodeUptoRow : OpenClaim := { program := "ytcjoflgnifafiaa", sum := "0afbb07657da05e909fb494ba221136c2f5da5e8f42d1c9c1dfd10529aa9fbb2", func := "multihop/multihoplaw39.ReportsEncode", spec := "reportsEncode", inPlace := ["internal/bytealg.Compare"], unfollowed := true, recurses := true, apart := false, narrowed := true }
def ReportsEncodeUptoSaid : Prop := reportsEncodeUptoRow.holds Try.pinned (OpenSpec.upto reportsEncodeSpec)

/-- 'multihoplaw39.ReportsCollect', WHERE WHAT IT READS IS OF BULK AT MOST 1048576: true; the input reads as it did. -/
def reportsCollectUptoRow : OpenClaim := { program := "ytcjoflgnifafiaa", sum := "0afbb07657da05e909fb494ba221136c2f5da5e8f42d1c9c1dfd10529aa9fbb2", func := "multihop/multihoplaw39.ReportsCollect", spec := "reportsCollect", inPlace := ["internal/bytealg.Compare"], unfollowed := true, recurses := true, apart := false, narrowed := true }
def ReportsCollectUptoSaid : Prop := reportsCollectUptoRow.holds Try.pinned (OpenSpec.upto reportsCollectSpec)

end Rows
end Go.Proofs.Ytcjoflgnifafiaa
