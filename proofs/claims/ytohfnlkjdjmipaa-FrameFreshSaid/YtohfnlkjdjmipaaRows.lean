/-
  No cell of these rows narrows 'for every input' (looked for: loops, veiled, ifaces, maps, wideKeys, modest, calm, conditions, laid).
  DERIVED. THE GIVEN ROWS OF THIS SEAT. 8 by the template 'for every input the law returns true; each argument reads behind the call as it read before'; 0 by the template 'total and deterministic' (their statements: YtohfnlkjdjmipaaTotals.lean).
  GIVEN WITH THE SEED: the statements are not yours to turn. If you find one false, say at which input.
  Laid BY PROGRAM, IN A SANDBOX (cutbox-rows.mjs): the forced cells as the released guide's own fill.sh prints them over the translation 497112e929ff65e9… (all of the seat's roots in one cut). By AI agents, Wed Nov 11 2026. No macro, syntax, notation, axiom, sorry.
-/
import Derived.Test.YtohfnlkjdjmipaaChecked
import GoSem.Claim
import GoSem.ClaimJoined
import GoSem.ClaimMapViews
import Derived.JoinedTies
import Derived.KernelRfl
namespace Go.Proofs.Ytohfnlkjdjmipaa
/- THE CELL 'sum', in the pinned program and in every row, IS THE sha256 OF THE DUMP (.gsa) THAT YtohfnlkjdjmipaaProg.lean LOADS. Nothing in Lean hashes anything: it is a label: what it is worth is what the hold of that sum in a sandbox is worth. -/
noncomputable def Try.pinned : Pinned := { name := "ytohfnlkjdjmipaa", sum := "497112e929ff65e9401a1b8dffb8b33329ce0093b83bc3ab7f98ead693c6eec4", checked := Try.checked }
namespace Rows
def none {H : Type} : Left H := { results := [], args := [] }

/-- 'multihoplaw05.FrameReads': WHATEVER THE INPUT: true; the input reads as it did. -/
def frameReadsSpec : ChangeSpec := { name := "frameReads", fn := fun _ => fun
  | [d1, d2, d3, d4, d5] => { results := [.lit (.bool true)], args := [d1, d2, d3, d4, d5] }
  | _ => none }
def frameReadsRow : OpenClaim := { program := "ytohfnlkjdjmipaa", sum := "497112e929ff65e9401a1b8dffb8b33329ce0093b83bc3ab7f98ead693c6eec4", func := "multihop/multihoplaw05.FrameReads", spec := "frameReads", apart := false }
def FrameReadsSaid : Prop := frameReadsRow.holds Try.pinned (OpenSpec.ofChange frameReadsSpec)

/-- ITS FALSE NEIGHBOUR: 'it returns false'. Refute it at one input. -/
def frameReadsWrong : ChangeSpec := { name := "frameReads", fn := fun _ => fun
  | [d1, d2, d3, d4, d5] => { results := [.lit (.bool false)], args := [d1, d2, d3, d4, d5] }
  | _ => none }
def FrameReadsWrongFalsely : Prop := frameReadsRow.holds Try.pinned (OpenSpec.ofChange frameReadsWrong)

/-- 'multihoplaw05.FrameCanonical': WHATEVER THE INPUT: true; the input reads as it did. -/
def frameCanonicalSpec : ChangeSpec := { name := "frameCanonical", fn := fun _ => fun
  | [d1, d2, d3, d4] => { results := [.lit (.bool true)], args := [d1, d2, d3, d4] }
  | _ => none }
def frameCanonicalRow : OpenClaim := { program := "ytohfnlkjdjmipaa", sum := "497112e929ff65e9401a1b8dffb8b33329ce0093b83bc3ab7f98ead693c6eec4", func := "multihop/multihoplaw05.FrameCanonical", spec := "frameCanonical", apart := false }
def FrameCanonicalSaid : Prop := frameCanonicalRow.holds Try.pinned (OpenSpec.ofChange frameCanonicalSpec)

/-- ITS FALSE NEIGHBOUR: 'it returns false'. Refute it at one input. -/
def frameCanonicalWrong : ChangeSpec := { name := "frameCanonical", fn := fun _ => fun
  | [d1, d2, d3, d4] => { results := [.lit (.bool false)], args := [d1, d2, d3, d4] }
  | _ => none }
def FrameCanonicalWrongFalsely : Prop := frameCanonicalRow.holds Try.pinned (OpenSpec.ofChange frameCanonicalWrong)

/-- 'multihoplaw05.FrameNotices': WHATEVER THE INPUT: true; the input reads as it did. -/
def frameNoticesSpec : ChangeSpec := { name := "frameNotices", fn := fun _ => fun
  | [d1, d2, d3] => { results := [.lit (.bool true)], args := [d1, d2, d3] }
  | _ => none }
def frameNoticesRow : OpenClaim := { program := "ytohfnlkjdjmipaa", sum := "497112e929ff65e9401a1b8dffb8b33329ce0093b83bc3ab7f98ead693c6eec4", func := "multihop/multihoplaw05.FrameNotices", spec := "frameNotices", apart := false }
def FrameNoticesSaid : Prop := frameNoticesRow.holds Try.pinned (OpenSpec.ofChange frameNoticesSpec)

/-- ITS FALSE NEIGHBOUR: 'it returns false'. Refute it at one input. -/
def frameNoticesWrong : ChangeSpec := { name := "frameNotices", fn := fun _ => fun
  | [d1, d2, d3] => { results := [.lit (.bool false)], args := [d1, d2, d3] }
  | _ => none }
def FrameNoticesWrongFalsely : Prop := frameNoticesRow.holds Try.pinned (OpenSpec.ofChange frameNoticesWrong)

/-- 'multihoplaw05.FrameFresh': WHATEVER THE INPUT: true; the input reads as it did. -/
def frameFreshSpec : ChangeSpec := { name := "frameFresh", fn := fun _ => fun
  | [d] => { results := [.lit (.bool true)], args := [d] }
  | _ => none }
def frameFreshRow : OpenClaim := { program := "ytohfnlkjdjmipaa", sum := "497112e929ff65e9401a1b8dffb8b33329ce0093b83bc3ab7f98ead693c6eec4", func := "multihop/multihoplaw05.FrameFresh", spec := "frameFresh", apart := false }
def FrameFreshSaid : Prop := frameFreshRow.holds Try.pinned (OpenSpec.ofChange frameFreshSpec)

/-- ITS FALSE NEIGHBOUR: 'it returns false'. Refute it at one input. -/
def frameFreshWrong : ChangeSpec := { name := "frameFresh", fn := fun _ => fun
  | [d] => { results := [.lit (.bool false)], args := [d] }
  | _ => none }
def FrameFreshWrongFalsely : Prop := frameFreshRow.holds Try.pinned (OpenSpec.ofChange frameFreshWrong)

/-- 'multihoplaw05.FrameBack': WHATEVER THE INPUT: true; the input reads as it did. -/
def frameBackSpec : ChangeSpec := { name := "frameBack", fn := fun _ => fun
  | [d] => { results := [.lit (.bool true)], args := [d] }
  | _ => none }
def frameBackRow : OpenClaim := { program := "ytohfnlkjdjmipaa", sum := "497112e929ff65e9401a1b8dffb8b33329ce0093b83bc3ab7f98ead693c6eec4", func := "multihop/multihoplaw05.FrameBack", spec := "frameBack", apart := false }
def FrameBackSaid : Prop := frameBackRow.holds Try.pinned (OpenSpec.ofChange frameBackSpec)

/-- ITS FALSE NEIGHBOUR: 'it returns false'. Refute it at one input. -/
def frameBackWrong : ChangeSpec := { name := "frameBack", fn := fun _ => fun
  | [d] => { results := [.lit (.bool false)], args := [d] }
  | _ => none }
def FrameBackWrongFalsely : Prop := frameBackRow.holds Try.pinned (OpenSpec.ofChange frameBackWrong)

/-- 'multihoplaw05.FrameRooms': WHATEVER THE INPUT: true; the input reads as it did. -/
def frameRoomsSpec : ChangeSpec := { name := "frameRooms", fn := fun _ => fun
  | [d1, d2] => { results := [.lit (.bool true)], args := [d1, d2] }
  | _ => none }
def frameRoomsRow : OpenClaim := { program := "ytohfnlkjdjmipaa", sum := "497112e929ff65e9401a1b8dffb8b33329ce0093b83bc3ab7f98ead693c6eec4", func := "multihop/multihoplaw05.FrameRooms", spec := "frameRooms", apart := false }
def FrameRoomsSaid : Prop := frameRoomsRow.holds Try.pinned (OpenSpec.ofChange frameRoomsSpec)

/-- ITS FALSE NEIGHBOUR: 'it returns false'. Refute it at one input. -/
def frameRoomsWrong : ChangeSpec := { name := "frameRooms", fn := fun _ => fun
  | [d1, d2] => { results := [.lit (.bool false)], args := [d1, d2] }
  | _ => none }
def FrameRoomsWrongFalsely : Prop := frameRoomsRow.holds Try.pinned (OpenSpec.ofChange frameRoomsWrong)

/-- 'multihoplaw05.FrameAcks': WHATEVER THE INPUT: true; the input reads as it did. -/
def frameAcksSpec : ChangeSpec := { name := "frameAcks", fn := fun _ => fun
  | [d] => { results := [.lit (.bool true)], args := [d] }
  | _ => none }
def frameAcksRow : OpenClaim := { program := "ytohfnlkjdjmipaa", sum := "497112e929ff65e9401a1b8dffb8b33329ce0093b83bc3ab7f98ead693c6eec4", func := "multihop/multihoplaw05.FrameAcks", spec := "frameAcks", apart := false }
def FrameAcksSaid : Prop := frameAcksRow.holds Try.pinned (OpenSpec.ofChange frameAcksSpec)

/-- ITS FALSE NEIGHBOUR: 'it returns false'. Refute it at one input. -/
def frameAcksWrong : ChangeSpec := { name := "frameAcks", fn := fun _ => fun
  | [d] => { results := [.lit (.bool false)], args := [d] }
  | _ => none }
def FrameAcksWrongFalsely : Prop := frameAcksRow.holds Try.pinned (OpenSpec.ofChange frameAcksWrong)

/-- 'multihoplaw05.FrameForms': WHATEVER THE INPUT: true; the input reads as it did. -/
def frameFormsSpec : ChangeSpec := { name := "frameForms", fn := fun _ => fun
  | [d1, d2] => { results := [.lit (.bool true)], args := [d1, d2] }
  | _ => none }
def frameFormsRow : OpenClaim := { program := "ytohfnlkjdjmipaa", sum := "497112e929ff65e9401a1b8dffb8b33329ce0093b83bc3ab7f98ead693c6eec4", func := "multihop/multihoplaw05.FrameForms", spec := "frameForms", apart := false }
def FrameFormsSaid : Prop := frameFormsRow.holds Try.pinned (OpenSpec.ofChange frameFormsSpec)

/-- ITS FALSE NEIGHBOUR: 'it returns false'. Refute it at one input. -/
def frameFormsWrong : ChangeSpec := { name := "frameForms", fn := fun _ => fun
  | [d1, d2] => { results := [.lit (.bool false)], args := [d1, d2] }
  | _ => none }
def FrameFormsWrongFalsely : Prop := frameFormsRow.holds Try.pinned (OpenSpec.ofChange frameFormsWrong)

/- THE SECOND FORM. 'bulk': how many values and letters a reading holds, each counted each time it is reached (what is shared counts as often as it is met; a slice's spare places count too). A statement '..UptoSaid' is the law's where the arguments, and the package variables that the reading takes, are together of bulk at most 1048576: NARROWER than '..Said'. Prove '..Said' where nothing that the law and all that it calls make is longer than what came in: it says more and counts as full. Else prove '..UptoSaid'. A law counts once. -/
mutual
def uptoBulk {H : Type} : DataW H → Nat
  | .lit (.string bytes) => bytes.length + 1
  | .lit _ => 1
  | .nil => 1
  | .ptr d => uptoBulk d + 1
  | .slice elems spare => uptoBulkAll elems + uptoBulkAll spare + 1
  | .agg parts => uptoBulkAll parts + 1
  | .iface _ d => uptoBulk d + 1
  | .map entries => uptoBulkEntries entries + 1
  | .held _ => 1
def uptoBulkAll {H : Type} : List (DataW H) → Nat
  | [] => 0
  | d :: r => uptoBulk d + uptoBulkAll r
def uptoBulkEntries {H : Type} : List (Lit × DataW H) → Nat
  | [] => 0
  | x :: r => uptoBulkEntry x + uptoBulkEntries r
def uptoBulkEntry {H : Type} : Lit × DataW H → Nat
  | (.string bytes, d) => bytes.length + uptoBulk d + 1
  | (_, d) => uptoBulk d + 1
 end
def uptoSmall : (H : Type) → List (DataW H) → Bool := fun _ ds => decide (uptoBulkAll ds ≤ 1048576)
def OpenSpec.upto (s : _root_.Go.ChangeSpec) : _root_.Go.OpenSpec := { _root_.Go.OpenSpec.ofChange s with cond := some uptoSmall }

/-- 'multihoplaw05.FrameReads', WHERE WHAT IT READS IS OF BULK AT MOST 1048576: true; the input reads as it did. -/
def frameReadsUptoRow : OpenClaim := { program := "ytohfnlkjdjmipaa", sum := "497112e929ff65e9401a1b8dffb8b33329ce0093b83bc3ab7f98ead693c6eec4", func := "multihop/multihoplaw05.FrameReads", spec := "frameReads", apart := false, narrowed := true }
def FrameReadsUptoSaid : Prop := frameReadsUptoRow.holds Try.pinned (OpenSpec.upto frameReadsSpec)

/-- 'multihoplaw05.FrameCanonical', WHERE WHAT IT READS IS OF BULK AT MOST 1048576: true; the input reads as it did. -/
def frameCanonicalUptoRow : OpenClaim := { program := "ytohfnlkjdjmipaa", sum := "497112e929ff65e9401a1b8dffb8b33329ce0093b83bc3ab7f98ead693c6eec4", func := "multihop/multihoplaw05.FrameCanonical", spec := "frameCanonical", apart := false, narrowed := true }
def FrameCanonicalUptoSaid : Prop := frameCanonicalUptoRow.holds Try.pinned (OpenSpec.upto frameCanonicalSpec)

/-- 'multihoplaw05.FrameNotices', WHERE WHAT IT READS IS OF BULK AT MOST 1048576: true; the input reads as it did. -/
def frameNoticesUptoRow : OpenClaim := { program := "ytohfnlkjdjmipaa", sum := "497112e929ff65e9401a1b8dffb8b33329ce0093b83bc3ab7f98ead693c6eec4", func := "multihop/multihoplaw05.FrameNotices", spec := "frameNotices", apart := false, narrowed := true }
def FrameNoticesUptoSaid : Prop := frameNoticesUptoRow.holds Try.pinned (OpenSpec.upto frameNoticesSpec)

/-- 'multihoplaw05.FrameFresh', WHERE WHAT IT READS IS OF BULK AT MOST 1048576: true; the input reads as it did. -/
def frameFreshUptoRow : OpenClaim := { program := "ytohfnlkjdjmipaa", sum := "497112e929ff65e9401a1b8dffb8b33329ce0093b83bc3ab7f98ead693c6eec4", func := "multihop/multihoplaw05.FrameFresh", spec := "frameFresh", apart := false, narrowed := true }
def FrameFreshUptoSaid : Prop := frameFreshUptoRow.holds Try.pinned (OpenSpec.upto frameFreshSpec)

/-- 'multihoplaw05.FrameBack', WHERE WHAT IT READS IS OF BULK AT MOST 1048576: true; the input reads as it did. -/
def frameBackUptoRow : OpenClaim := { program := "ytohfnlkjdjmipaa", sum := "497112e929ff65e9401a1b8dffb8b33329ce0093b83bc3ab7f98ead693c6eec4", func := "multihop/multihoplaw05.FrameBack", spec := "frameBack", apart := false, narrowed := true }
def FrameBackUptoSaid : Prop := frameBackUptoRow.holds Try.pinned (OpenSpec.upto frameBackSpec)

/-- 'multihoplaw05.FrameRooms', WHERE WHAT IT READS IS OF BULK AT MOST 1048576: true; the input reads as it did. -/
def frameRoomsUptoRow : OpenClaim := { program := "ytohfnlkjdjmipaa", sum := "497112e929ff65e9401a1b8dffb8b33329ce0093b83bc3ab7f98ead693c6eec4", func := "multihop/multihoplaw05.FrameRooms", spec := "frameRooms", apart := false, narrowed := true }
def FrameRoomsUptoSaid : Prop := frameRoomsUptoRow.holds Try.pinned (OpenSpec.upto frameRoomsSpec)

/-- 'multihoplaw05.FrameAcks', WHERE WHAT IT READS IS OF BULK AT MOST 1048576: true; the input reads as it did. -/
def frameAcksUptoRow : OpenClaim := { program := "ytohfnlkjdjmipaa", sum := "497112e929ff65e9401a1b8dffb8b33329ce0093b83bc3ab7f98ead693c6eec4", func := "multihop/multihoplaw05.FrameAcks", spec := "frameAcks", apart := false, narrowed := true }
def FrameAcksUptoSaid : Prop := frameAcksUptoRow.holds Try.pinned (OpenSpec.upto frameAcksSpec)

/-- 'multihoplaw05.FrameForms', WHERE WHAT IT READS IS OF BULK AT MOST 1048576: true; the input reads as it did. -/
def frameFormsUptoRow : OpenClaim := { program := "ytohfnlkjdjmipaa", sum := "497112e929ff65e9401a1b8dffb8b33329ce0093b83bc3ab7f98ead693c6eec4", func := "multihop/multihoplaw05.FrameForms", spec := "frameForms", apart := false, narrowed := true }
def FrameFormsUptoSaid : Prop := frameFormsUptoRow.holds Try.pinned (OpenSpec.upto frameFormsSpec)

end Rows
end Go.Proofs.Ytohfnlkjdjmipaa
