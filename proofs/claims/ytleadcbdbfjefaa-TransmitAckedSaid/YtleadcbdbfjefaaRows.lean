/-
  No cell of these rows narrows 'for every input' (looked for: loops, veiled, ifaces, maps, wideKeys, modest, calm, conditions, laid).
  DERIVED. THE GIVEN ROWS OF THIS SEAT. 6 by the template 'for every input the law returns true; each argument reads behind the call as it read before'; 0 by the template 'total and deterministic' (their statements: YtleadcbdbfjefaaTotals.lean).
  GIVEN WITH THE SEED: the statements are not yours to turn. If you find one false, say at which input.
  Laid BY PROGRAM, IN A SANDBOX (cutbox-rows.mjs): the forced cells as the released guide's own fill.sh prints them over the translation 168ad17b3ef66485… (all of the seat's roots in one cut). By AI agents, Wed Nov 11 2026. No macro, syntax, notation, axiom, sorry.
-/
import Derived.Test.YtleadcbdbfjefaaChecked
import GoSem.Claim
import GoSem.ClaimJoined
import GoSem.ClaimMapViews
import Derived.JoinedTies
import Derived.KernelRfl
namespace Go.Proofs.Ytleadcbdbfjefaa
/- THE CELL 'sum', in the pinned program and in every row, IS THE sha256 OF THE DUMP (.gsa) THAT YtleadcbdbfjefaaProg.lean LOADS. Nothing in Lean hashes anything: it is a label: what it is worth is what the hold of that sum in a sandbox is worth. -/
noncomputable def Try.pinned : Pinned := { name := "ytleadcbdbfjefaa", sum := "168ad17b3ef664857b64f0731c3decd663ba120ba5a74311cc697b02e3af9b64", checked := Try.checked }
namespace Rows
def none {H : Type} : Left H := { results := [], args := [] }

/-- 'multihoplaw09.TransmitForms': WHATEVER THE INPUT: true; the input reads as it did. -/
def transmitFormsSpec : ChangeSpec := { name := "transmitForms", fn := fun _ => fun
  | [d1, d2, d3, d4, d5] => { results := [.lit (.bool true)], args := [d1, d2, d3, d4, d5] }
  | _ => none }
def transmitFormsRow : OpenClaim := { program := "ytleadcbdbfjefaa", sum := "168ad17b3ef664857b64f0731c3decd663ba120ba5a74311cc697b02e3af9b64", func := "multihop/multihoplaw09.TransmitForms", spec := "transmitForms", apart := false }
def TransmitFormsSaid : Prop := transmitFormsRow.holds Try.pinned (OpenSpec.ofChange transmitFormsSpec)

/-- ITS FALSE NEIGHBOUR: 'it returns false'. Refute it at one input. -/
def transmitFormsWrong : ChangeSpec := { name := "transmitForms", fn := fun _ => fun
  | [d1, d2, d3, d4, d5] => { results := [.lit (.bool false)], args := [d1, d2, d3, d4, d5] }
  | _ => none }
def TransmitFormsWrongFalsely : Prop := transmitFormsRow.holds Try.pinned (OpenSpec.ofChange transmitFormsWrong)

/-- 'multihoplaw09.TransmitPlays': WHATEVER THE INPUT: true; the input reads as it did. -/
def transmitPlaysSpec : ChangeSpec := { name := "transmitPlays", fn := fun _ => fun
  | [d1, d2] => { results := [.lit (.bool true)], args := [d1, d2] }
  | _ => none }
def transmitPlaysRow : OpenClaim := { program := "ytleadcbdbfjefaa", sum := "168ad17b3ef664857b64f0731c3decd663ba120ba5a74311cc697b02e3af9b64", func := "multihop/multihoplaw09.TransmitPlays", spec := "transmitPlays", apart := false }
def TransmitPlaysSaid : Prop := transmitPlaysRow.holds Try.pinned (OpenSpec.ofChange transmitPlaysSpec)

/-- ITS FALSE NEIGHBOUR: 'it returns false'. Refute it at one input. -/
def transmitPlaysWrong : ChangeSpec := { name := "transmitPlays", fn := fun _ => fun
  | [d1, d2] => { results := [.lit (.bool false)], args := [d1, d2] }
  | _ => none }
def TransmitPlaysWrongFalsely : Prop := transmitPlaysRow.holds Try.pinned (OpenSpec.ofChange transmitPlaysWrong)

/-- 'multihoplaw09.TransmitOutcomes': WHATEVER THE INPUT: true; the input reads as it did. -/
def transmitOutcomesSpec : ChangeSpec := { name := "transmitOutcomes", fn := fun _ => fun
  | [d1, d2, d3] => { results := [.lit (.bool true)], args := [d1, d2, d3] }
  | _ => none }
def transmitOutcomesRow : OpenClaim := { program := "ytleadcbdbfjefaa", sum := "168ad17b3ef664857b64f0731c3decd663ba120ba5a74311cc697b02e3af9b64", func := "multihop/multihoplaw09.TransmitOutcomes", spec := "transmitOutcomes", apart := false }
def TransmitOutcomesSaid : Prop := transmitOutcomesRow.holds Try.pinned (OpenSpec.ofChange transmitOutcomesSpec)

/-- ITS FALSE NEIGHBOUR: 'it returns false'. Refute it at one input. -/
def transmitOutcomesWrong : ChangeSpec := { name := "transmitOutcomes", fn := fun _ => fun
  | [d1, d2, d3] => { results := [.lit (.bool false)], args := [d1, d2, d3] }
  | _ => none }
def TransmitOutcomesWrongFalsely : Prop := transmitOutcomesRow.holds Try.pinned (OpenSpec.ofChange transmitOutcomesWrong)

/-- 'multihoplaw09.TransmitAcked': WHATEVER THE INPUT: true; the input reads as it did. -/
def transmitAckedSpec : ChangeSpec := { name := "transmitAcked", fn := fun _ => fun
  | [d1, d2, d3] => { results := [.lit (.bool true)], args := [d1, d2, d3] }
  | _ => none }
def transmitAckedRow : OpenClaim := { program := "ytleadcbdbfjefaa", sum := "168ad17b3ef664857b64f0731c3decd663ba120ba5a74311cc697b02e3af9b64", func := "multihop/multihoplaw09.TransmitAcked", spec := "transmitAcked", apart := false }
def TransmitAckedSaid : Prop := transmitAckedRow.holds Try.pinned (OpenSpec.ofChange transmitAckedSpec)

/-- ITS FALSE NEIGHBOUR: 'it returns false'. Refute it at one input. -/
def transmitAckedWrong : ChangeSpec := { name := "transmitAcked", fn := fun _ => fun
  | [d1, d2, d3] => { results := [.lit (.bool false)], args := [d1, d2, d3] }
  | _ => none }
def TransmitAckedWrongFalsely : Prop := transmitAckedRow.holds Try.pinned (OpenSpec.ofChange transmitAckedWrong)

/-- 'multihoplaw09.TransmitQuiet': WHATEVER THE INPUT: true; the input reads as it did. -/
def transmitQuietSpec : ChangeSpec := { name := "transmitQuiet", fn := fun _ => fun
  | [d1, d2] => { results := [.lit (.bool true)], args := [d1, d2] }
  | _ => none }
def transmitQuietRow : OpenClaim := { program := "ytleadcbdbfjefaa", sum := "168ad17b3ef664857b64f0731c3decd663ba120ba5a74311cc697b02e3af9b64", func := "multihop/multihoplaw09.TransmitQuiet", spec := "transmitQuiet", apart := false }
def TransmitQuietSaid : Prop := transmitQuietRow.holds Try.pinned (OpenSpec.ofChange transmitQuietSpec)

/-- ITS FALSE NEIGHBOUR: 'it returns false'. Refute it at one input. -/
def transmitQuietWrong : ChangeSpec := { name := "transmitQuiet", fn := fun _ => fun
  | [d1, d2] => { results := [.lit (.bool false)], args := [d1, d2] }
  | _ => none }
def TransmitQuietWrongFalsely : Prop := transmitQuietRow.holds Try.pinned (OpenSpec.ofChange transmitQuietWrong)

/-- 'multihoplaw09.TransmitFull': WHATEVER THE INPUT: true; the input reads as it did. -/
def transmitFullSpec : ChangeSpec := { name := "transmitFull", fn := fun _ => fun
  | [d] => { results := [.lit (.bool true)], args := [d] }
  | _ => none }
def transmitFullRow : OpenClaim := { program := "ytleadcbdbfjefaa", sum := "168ad17b3ef664857b64f0731c3decd663ba120ba5a74311cc697b02e3af9b64", func := "multihop/multihoplaw09.TransmitFull", spec := "transmitFull", apart := false }
def TransmitFullSaid : Prop := transmitFullRow.holds Try.pinned (OpenSpec.ofChange transmitFullSpec)

/-- ITS FALSE NEIGHBOUR: 'it returns false'. Refute it at one input. -/
def transmitFullWrong : ChangeSpec := { name := "transmitFull", fn := fun _ => fun
  | [d] => { results := [.lit (.bool false)], args := [d] }
  | _ => none }
def TransmitFullWrongFalsely : Prop := transmitFullRow.holds Try.pinned (OpenSpec.ofChange transmitFullWrong)

/- THE SECOND FORM. 'bulk': how many values and letters a reading holds, each counted each time it is reached (what is shared counts as often as it is met; a slice's spare places count too). A statement '..UptoSaid' is the law's where the arguments, and the package variables that the reading takes, are together of bulk at most 1048576: NARROWER than '..Said'. Prove '..Said' where nothing that the law and all that it calls make is longer than what came in: it says more and counts as full. Else prove '..UptoSaid'. A law counts once. -/
mutual
def uptoBulk {H : Type} : DataW H → Nat
  | .lit (.string bytes) => bytes.length + 1
  | .lit _ => 1
  | .nil => 1
  | .ptr d => uptoBulk d + 1
  | .slice elems spare => uptoBulkAll elems + uptoBulkAll spare + 1
  | .agg parts => uptoBulkAll parts + 1
  | .iface _ d => uptoBulk d + 1
  | .map entries => uptoBulkEntries entries + 1
  | .held _ => 1
def uptoBulkAll {H : Type} : List (DataW H) → Nat
  | [] => 0
  | d :: r => uptoBulk d + uptoBulkAll r
def uptoBulkEntries {H : Type} : List (Lit × DataW H) → Nat
  | [] => 0
  | x :: r => uptoBulkEntry x + uptoBulkEntries r
def uptoBulkEntry {H : Type} : Lit × DataW H → Nat
  | (.string bytes, d) => bytes.length + uptoBulk d + 1
  | (_, d) => uptoBulk d + 1
 end
def uptoSmall : (H : Type) → List (DataW H) → Bool := fun _ ds => decide (uptoBulkAll ds ≤ 1048576)
def OpenSpec.upto (s : _root_.Go.ChangeSpec) : _root_.Go.OpenSpec := { _root_.Go.OpenSpec.ofChange s with cond := some uptoSmall }

/-- 'multihoplaw09.TransmitForms', WHERE WHAT IT READS IS OF BULK AT MOST 1048576: true; the input reads as it did. -/
def transmitFormsUptoRow : OpenClaim := { program := "ytleadcbdbfjefaa", sum := "168ad17b3ef664857b64f0731c3decd663ba120ba5a74311cc697b02e3af9b64", func := "multihop/multihoplaw09.TransmitForms", spec := "transmitForms", apart := false, narrowed := true }
def TransmitFormsUptoSaid : Prop := transmitFormsUptoRow.holds Try.pinned (OpenSpec.upto transmitFormsSpec)

/-- 'multihoplaw09.TransmitPlays', WHERE WHAT IT READS IS OF BULK AT MOST 1048576: true; the input reads as it did. -/
def transmitPlaysUptoRow : OpenClaim := { program := "ytleadcbdbfjefaa", sum := "168ad17b3ef664857b64f0731c3decd663ba120ba5a74311cc697b02e3af9b64", func := "multihop/multihoplaw09.TransmitPlays", spec := "transmitPlays", apart := false, narrowed := true }
def TransmitPlaysUptoSaid : Prop := transmitPlaysUptoRow.holds Try.pinned (OpenSpec.upto transmitPlaysSpec)

/-- 'multihoplaw09.TransmitOutcomes', WHERE WHAT IT READS IS OF BULK AT MOST 1048576: true; the input reads as it did. -/
def transmitOutcomesUptoRow : OpenClaim := { program := "ytleadcbdbfjefaa", sum := "168ad17b3ef664857b64f0731c3decd663ba120ba5a74311cc697b02e3af9b64", func := "multihop/multihoplaw09.TransmitOutcomes", spec := "transmitOutcomes", apart := false, narrowed := true }
def TransmitOutcomesUptoSaid : Prop := transmitOutcomesUptoRow.holds Try.pinned (OpenSpec.upto transmitOutcomesSpec)

/-- 'multihoplaw09.TransmitAcked', WHERE WHAT IT READS IS OF BULK AT MOST 1048576: true; the input reads as it did. -/
def transmitAckedUptoRow : OpenClaim := { program := "ytleadcbdbfjefaa", sum := "168ad17b3ef664857b64f0731c3decd663ba120ba5a74311cc697b02e3af9b64", func := "multihop/multihoplaw09.TransmitAcked", spec := "transmitAcked", apart := false, narrowed := true }
def TransmitAckedUptoSaid : Prop := transmitAckedUptoRow.holds Try.pinned (OpenSpec.upto transmitAckedSpec)

/-- 'multihoplaw09.TransmitQuiet', WHERE WHAT IT READS IS OF BULK AT MOST 1048576: true; the input reads as it did. -/
def transmitQuietUptoRow : OpenClaim := { program := "ytleadcbdbfjefaa", sum := "168ad17b3ef664857b64f0731c3decd663ba120ba5a74311cc697b02e3af9b64", func := "multihop/multihoplaw09.TransmitQuiet", spec := "transmitQuiet", apart := false, narrowed := true }
def TransmitQuietUptoSaid : Prop := transmitQuietUptoRow.holds Try.pinned (OpenSpec.upto transmitQuietSpec)

/-- 'multihoplaw09.TransmitFull', WHERE WHAT IT READS IS OF BULK AT MOST 1048576: true; the input reads as it did. -/
def transmitFullUptoRow : OpenClaim := { program := "ytleadcbdbfjefaa", sum := "168ad17b3ef664857b64f0731c3decd663ba120ba5a74311cc697b02e3af9b64", func := "multihop/multihoplaw09.TransmitFull", spec := "transmitFull", apart := false, narrowed := true }
def TransmitFullUptoSaid : Prop := transmitFullUptoRow.holds Try.pinned (OpenSpec.upto transmitFullSpec)

end Rows
end Go.Proofs.Ytleadcbdbfjefaa
