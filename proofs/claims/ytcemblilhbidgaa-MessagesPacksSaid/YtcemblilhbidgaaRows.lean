/-
  No cell of these rows narrows 'for every input' (looked for: loops, veiled, ifaces, maps, wideKeys, modest, calm, conditions, laid).
  DERIVED. THE GIVEN ROWS OF THIS SEAT. 7 by the template 'for every input the law returns true; each argument reads behind the call as it read before'; 0 by the template 'total and deterministic' (their statements: YtcemblilhbidgaaTotals.lean).
  GIVEN WITH THE SEED: the statements are not yours to turn. If you find one false, say at which input.
  Laid BY PROGRAM, IN A SANDBOX (cutbox-rows.mjs): the forced cells as the released guide's own fill.sh prints them over the translation 51769f5ca42d598a… (all of the seat's roots in one cut). By AI agents, Wed Nov 11 2026. No macro, syntax, notation, axiom, sorry.
-/
import Derived.Test.YtcemblilhbidgaaChecked
import GoSem.Claim
import GoSem.ClaimJoined
import GoSem.ClaimMapViews
import Derived.JoinedTies
import Derived.KernelRfl
namespace Go.Proofs.Ytcemblilhbidgaa
/- THE CELL 'sum', in the pinned program and in every row, IS THE sha256 OF THE DUMP (.gsa) THAT YtcemblilhbidgaaProg.lean LOADS. Nothing in Lean hashes anything: it is a label: what it is worth is what the hold of that sum in a sandbox is worth. -/
noncomputable def Try.pinned : Pinned := { name := "ytcemblilhbidgaa", sum := "51769f5ca42d598a35360396f1cf2ad8ad642552a01178adfa943a3f92eb6012", checked := Try.checked }
namespace Rows
def none {H : Type} : Left H := { results := [], args := [] }

/-- 'multihoplaw29.MessagesEncode': WHATEVER THE INPUT: true; the input reads as it did. -/
def messagesEncodeSpec : ChangeSpec := { name := "messagesEncode", fn := fun _ => fun
  | [d1, d2, d3] => { results := [.lit (.bool true)], args := [d1, d2, d3] }
  | _ => none }
def messagesEncodeRow : OpenClaim := { program := "ytcemblilhbidgaa", sum := "51769f5ca42d598a35360396f1cf2ad8ad642552a01178adfa943a3f92eb6012", func := "multihop/multihoplaw29.MessagesEncode", spec := "messagesEncode", unfollowed := true, recurses := true, apart := false }
def MessagesEncodeSaid : Prop := messagesEncodeRow.holds Try.pinned (OpenSpec.ofChange messagesEncodeSpec)

/-- ITS FALSE NEIGHBOUR: 'it returns false'. Refute it at one input. -/
def messagesEncodeWrong : ChangeSpec := { name := "messagesEncode", fn := fun _ => fun
  | [d1, d2, d3] => { results := [.lit (.bool false)], args := [d1, d2, d3] }
  | _ => none }
def MessagesEncodeWrongFalsely : Prop := messagesEncodeRow.holds Try.pinned (OpenSpec.ofChange messagesEncodeWrong)

/-- 'multihoplaw29.MessagesReads': WHATEVER THE INPUT: true; the input reads as it did. -/
def messagesReadsSpec : ChangeSpec := { name := "messagesReads", fn := fun _ => fun
  | [d1, d2, d3] => { results := [.lit (.bool true)], args := [d1, d2, d3] }
  | _ => none }
def messagesReadsRow : OpenClaim := { program := "ytcemblilhbidgaa", sum := "51769f5ca42d598a35360396f1cf2ad8ad642552a01178adfa943a3f92eb6012", func := "multihop/multihoplaw29.MessagesReads", spec := "messagesReads", unfollowed := true, recurses := true, apart := false }
def MessagesReadsSaid : Prop := messagesReadsRow.holds Try.pinned (OpenSpec.ofChange messagesReadsSpec)

/-- ITS FALSE NEIGHBOUR: 'it returns false'. Refute it at one input. -/
def messagesReadsWrong : ChangeSpec := { name := "messagesReads", fn := fun _ => fun
  | [d1, d2, d3] => { results := [.lit (.bool false)], args := [d1, d2, d3] }
  | _ => none }
def MessagesReadsWrongFalsely : Prop := messagesReadsRow.holds Try.pinned (OpenSpec.ofChange messagesReadsWrong)

/-- 'multihoplaw29.MessagesMany': WHATEVER THE INPUT: true; the input reads as it did. -/
def messagesManySpec : ChangeSpec := { name := "messagesMany", fn := fun _ => fun
  | [d1, d2] => { results := [.lit (.bool true)], args := [d1, d2] }
  | _ => none }
def messagesManyRow : OpenClaim := { program := "ytcemblilhbidgaa", sum := "51769f5ca42d598a35360396f1cf2ad8ad642552a01178adfa943a3f92eb6012", func := "multihop/multihoplaw29.MessagesMany", spec := "messagesMany", unfollowed := true, recurses := true, apart := false }
def MessagesManySaid : Prop := messagesManyRow.holds Try.pinned (OpenSpec.ofChange messagesManySpec)

/-- ITS FALSE NEIGHBOUR: 'it returns false'. Refute it at one input. -/
def messagesManyWrong : ChangeSpec := { name := "messagesMany", fn := fun _ => fun
  | [d1, d2] => { results := [.lit (.bool false)], args := [d1, d2] }
  | _ => none }
def MessagesManyWrongFalsely : Prop := messagesManyRow.holds Try.pinned (OpenSpec.ofChange messagesManyWrong)

/-- 'multihoplaw29.MessagesUnique': WHATEVER THE INPUT: true; the input reads as it did. -/
def messagesUniqueSpec : ChangeSpec := { name := "messagesUnique", fn := fun _ => fun
  | [d1, d2, d3, d4] => { results := [.lit (.bool true)], args := [d1, d2, d3, d4] }
  | _ => none }
def messagesUniqueRow : OpenClaim := { program := "ytcemblilhbidgaa", sum := "51769f5ca42d598a35360396f1cf2ad8ad642552a01178adfa943a3f92eb6012", func := "multihop/multihoplaw29.MessagesUnique", spec := "messagesUnique", unfollowed := true, recurses := true, apart := false }
def MessagesUniqueSaid : Prop := messagesUniqueRow.holds Try.pinned (OpenSpec.ofChange messagesUniqueSpec)

/-- ITS FALSE NEIGHBOUR: 'it returns false'. Refute it at one input. -/
def messagesUniqueWrong : ChangeSpec := { name := "messagesUnique", fn := fun _ => fun
  | [d1, d2, d3, d4] => { results := [.lit (.bool false)], args := [d1, d2, d3, d4] }
  | _ => none }
def MessagesUniqueWrongFalsely : Prop := messagesUniqueRow.holds Try.pinned (OpenSpec.ofChange messagesUniqueWrong)

/-- 'multihoplaw29.MessagesWhole': WHATEVER THE INPUT: true; the input reads as it did. -/
def messagesWholeSpec : ChangeSpec := { name := "messagesWhole", fn := fun _ => fun
  | [d1, d2, d3] => { results := [.lit (.bool true)], args := [d1, d2, d3] }
  | _ => none }
def messagesWholeRow : OpenClaim := { program := "ytcemblilhbidgaa", sum := "51769f5ca42d598a35360396f1cf2ad8ad642552a01178adfa943a3f92eb6012", func := "multihop/multihoplaw29.MessagesWhole", spec := "messagesWhole", unfollowed := true, recurses := true, apart := false }
def MessagesWholeSaid : Prop := messagesWholeRow.holds Try.pinned (OpenSpec.ofChange messagesWholeSpec)

/-- ITS FALSE NEIGHBOUR: 'it returns false'. Refute it at one input. -/
def messagesWholeWrong : ChangeSpec := { name := "messagesWhole", fn := fun _ => fun
  | [d1, d2, d3] => { results := [.lit (.bool false)], args := [d1, d2, d3] }
  | _ => none }
def MessagesWholeWrongFalsely : Prop := messagesWholeRow.holds Try.pinned (OpenSpec.ofChange messagesWholeWrong)

/-- 'multihoplaw29.MessagesPacks': WHATEVER THE INPUT: true; the input reads as it did. -/
def messagesPacksSpec : ChangeSpec := { name := "messagesPacks", fn := fun _ => fun
  | [d1, d2, d3, d4] => { results := [.lit (.bool true)], args := [d1, d2, d3, d4] }
  | _ => none }
def messagesPacksRow : OpenClaim := { program := "ytcemblilhbidgaa", sum := "51769f5ca42d598a35360396f1cf2ad8ad642552a01178adfa943a3f92eb6012", func := "multihop/multihoplaw29.MessagesPacks", spec := "messagesPacks", unfollowed := true, recurses := true, apart := false }
def MessagesPacksSaid : Prop := messagesPacksRow.holds Try.pinned (OpenSpec.ofChange messagesPacksSpec)

/-- ITS FALSE NEIGHBOUR: 'it returns false'. Refute it at one input. -/
def messagesPacksWrong : ChangeSpec := { name := "messagesPacks", fn := fun _ => fun
  | [d1, d2, d3, d4] => { results := [.lit (.bool false)], args := [d1, d2, d3, d4] }
  | _ => none }
def MessagesPacksWrongFalsely : Prop := messagesPacksRow.holds Try.pinned (OpenSpec.ofChange messagesPacksWrong)

/-- 'multihoplaw29.MessagesDecode': WHATEVER THE INPUT: true; the input reads as it did. -/
def messagesDecodeSpec : ChangeSpec := { name := "messagesDecode", fn := fun _ => fun
  | [d1, d2, d3, d4] => { results := [.lit (.bool true)], args := [d1, d2, d3, d4] }
  | _ => none }
def messagesDecodeRow : OpenClaim := { program := "ytcemblilhbidgaa", sum := "51769f5ca42d598a35360396f1cf2ad8ad642552a01178adfa943a3f92eb6012", func := "multihop/multihoplaw29.MessagesDecode", spec := "messagesDecode", unfollowed := true, recurses := true, apart := false }
def MessagesDecodeSaid : Prop := messagesDecodeRow.holds Try.pinned (OpenSpec.ofChange messagesDecodeSpec)

/-- ITS FALSE NEIGHBOUR: 'it returns false'. Refute it at one input. -/
def messagesDecodeWrong : ChangeSpec := { name := "messagesDecode", fn := fun _ => fun
  | [d1, d2, d3, d4] => { results := [.lit (.bool false)], args := [d1, d2, d3, d4] }
  | _ => none }
def MessagesDecodeWrongFalsely : Prop := messagesDecodeRow.holds Try.pinned (OpenSpec.ofChange messagesDecodeWrong)

/- THE SECOND FORM. 'bulk': how many values and letters a reading holds, each counted each time it is reached (what is shared counts as often as it is met; a slice's spare places count too). A statement '..UptoSaid' is the law's where the arguments, and the package variables that the reading takes, are together of bulk at most 1048576: NARROWER than '..Said'. Prove '..Said' where nothing that the law and all that it calls make is longer than what came in: it says more and counts as full. Else prove '..UptoSaid'. A law counts once. -/
mutual
def uptoBulk {H : Type} : DataW H → Nat
  | .lit (.string bytes) => bytes.length + 1
  | .lit _ => 1
  | .nil => 1
  | .ptr d => uptoBulk d + 1
  | .slice elems spare => uptoBulkAll elems + uptoBulkAll spare + 1
  | .agg parts => uptoBulkAll parts + 1
  | .iface _ d => uptoBulk d + 1
  | .map entries => uptoBulkEntries entries + 1
  | .held _ => 1
def uptoBulkAll {H : Type} : List (DataW H) → Nat
  | [] => 0
  | d :: r => uptoBulk d + uptoBulkAll r
def uptoBulkEntries {H : Type} : List (Lit × DataW H) → Nat
  | [] => 0
  | x :: r => uptoBulkEntry x + uptoBulkEntries r
def uptoBulkEntry {H : Type} : Lit × DataW H → Nat
  | (.string bytes, d) => bytes.length + uptoBulk d + 1
  | (_, d) => uptoBulk d + 1
 end
def uptoSmall : (H : Type) → List (DataW H) → Bool := fun _ ds => decide (uptoBulkAll ds ≤ 1048576)
def OpenSpec.upto (s : _root_.Go.ChangeSpec) : _root_.Go.OpenSpec := { _root_.Go.OpenSpec.ofChange s with cond := some uptoSmall }

/-- 'multihoplaw29.MessagesEncode', WHERE WHAT IT READS IS OF BULK AT MOST 1048576: true; the input reads as it did. -/
def messagesEncodeUptoRow : OpenClaim := { program := "ytcemblilhbidgaa", sum := "51769f5ca42d598a35360396f1cf2ad8ad642552a01178adfa943a3f92eb6012", func := "multihop/multihoplaw29.MessagesEncode", spec := "messagesEncode", unfollowed := true, recurses := true, apart := false, narrowed := true }
def MessagesEncodeUptoSaid : Prop := messagesEncodeUptoRow.holds Try.pinned (OpenSpec.upto messagesEncodeSpec)

/-- 'multihoplaw29.MessagesReads', WHERE WHAT IT READS IS OF BULK AT MOST 1048576: true; the input reads as it did. -/
def messagesReadsUptoRow : OpenClaim := { program := "ytcemblilhbidgaa", sum := "51769f5ca42d598a35360396f1cf2ad8ad642552a01178adfa943a3f92eb6012", func := "multihop/multihoplaw29.MessagesReads", spec := "messagesReads", unfollowed := true, recurses := true, apart := false, narrowed := true }
def MessagesReadsUptoSaid : Prop := messagesReadsUptoRow.holds Try.pinned (OpenSpec.upto messagesReadsSpec)

/-- 'multihoplaw29.MessagesMany', WHERE WHAT IT READS IS OF BULK AT MOST 1048576: true; the input reads as it did. -/
def messagesManyUptoRow : OpenClaim := { program := "ytcemblilhbidgaa", sum := "51769f5ca42d598a35360396f1cf2ad8ad642552a01178adfa943a3f92eb6012", func := "multihop/multihoplaw29.MessagesMany", spec := "messagesMany", unfollowed := true, recurses := true, apart := false, narrowed := true }
def MessagesManyUptoSaid : Prop := messagesManyUptoRow.holds Try.pinned (OpenSpec.upto messagesManySpec)

/-- 'multihoplaw29.MessagesUnique', WHERE WHAT IT READS IS OF BULK AT MOST 1048576: true; the input reads as it did. -/
def messagesUniqueUptoRow : OpenClaim := { program := "ytcemblilhbidgaa", sum := "51769f5ca42d598a35360396f1cf2ad8ad642552a01178adfa943a3f92eb6012", func := "multihop/multihoplaw29.MessagesUnique", spec := "messagesUnique", unfollowed := true, recurses := true, apart := false, narrowed := true }
def MessagesUniqueUptoSaid : Prop := messagesUniqueUptoRow.holds Try.pinned (OpenSpec.upto messagesUniqueSpec)

/-- 'multihoplaw29.MessagesWhole', WHERE WHAT IT READS IS OF BULK AT MOST 1048576: true; the input reads as it did. -/
def messagesWholeUptoRow : OpenClaim := { program := "ytcemblilhbidgaa", sum := "51769f5ca42d598a35360396f1cf2ad8ad642552a01178adfa943a3f92eb6012", func := "multihop/multihoplaw29.MessagesWhole", spec := "messagesWhole", unfollowed := true, recurses := true, apart := false, narrowed := true }
def MessagesWholeUptoSaid : Prop := messagesWholeUptoRow.holds Try.pinned (OpenSpec.upto messagesWholeSpec)

/-- 'multihoplaw29.MessagesPacks', WHERE WHAT IT READS IS OF BULK AT MOST 1048576: true; the input reads as it did. -/
def messagesPacksUptoRow : OpenClaim := { program := "ytcemblilhbidgaa", sum := "51769f5ca42d598a35360396f1cf2ad8ad642552a01178adfa943a3f92eb6012", func := "multihop/multihoplaw29.MessagesPacks", spec := "messagesPacks", unfollowed := true, recurses := true, apart := false, narrowed := true }
def MessagesPacksUptoSaid : Prop := messagesPacksUptoRow.holds Try.pinned (OpenSpec.upto messagesPacksSpec)

/-- 'multihoplaw29.MessagesDecode', WHERE WHAT IT READS IS OF BULK AT MOST 1048576: true; the input reads as it did. -/
def messagesDecodeUptoRow : OpenClaim := { program := "ytcemblilhbidgaa", sum := "51769f5ca42d598a35360396f1cf2ad8ad642552a01178adfa943a3f92eb6012", func := "multihop/multihoplaw29.MessagesDecode", spec := "messagesDecode", unfollowed := true, recurses := true, apart := false, narrowed := true }
def MessagesDecodeUptoSaid : Prop := messagesDecodeUptoRow.holds Try.pinned (OpenSpec.upto messagesDecodeSpec)

end Rows
end Go.Proofs.Ytcemblilhbidgaa
