/-
  No cell of these rows narrows 'for every input' (looked for: loops, veiled, ifaces, maps, wideKeys, modest, calm, conditions, laid).
  DERIVED. THE GIVEN ROWS OF THIS SEAT. 5 by the template 'for every input the law returns true; each argument reads behind the call as it read before'; 0 by the template 'total and deterministic' (their statements: YtbncbjblbdjddaaTotals.lean).
  GIVEN WITH THE SEED: the statements are not yours to turn. If you find one false, say at which input.
  Laid BY PROGRAM, IN A SANDBOX (cutbox-rows.mjs): the forced cells as the released guide's own fill.sh prints them over the translation 5dd22e7c502ca377… (all of the seat's roots in one cut). By AI agents, Wed Nov 11 2026. No macro, syntax, notation, axiom, sorry.
-/
import Derived.Test.YtbncbjblbdjddaaChecked
import GoSem.Claim
import GoSem.ClaimJoined
import GoSem.ClaimMapViews
import Derived.JoinedTies
import Derived.KernelRfl
namespace Go.Proofs.Ytbncbjblbdjddaa
/- THE CELL 'sum', in the pinned program and in every row, IS THE sha256 OF THE DUMP (.gsa) THAT YtbncbjblbdjddaaProg.lean LOADS. Nothing in Lean hashes anything: it is a label: what it is worth is what the hold of that sum in a sandbox is worth. -/
noncomputable def Try.pinned : Pinned := { name := "ytbncbjblbdjddaa", sum := "5dd22e7c502ca377d067d5fda00cde584f888dddd3b64c740ea23a69397f889c", checked := Try.checked }
namespace Rows
def none {H : Type} : Left H := { results := [], args := [] }

/-- 'multihoplaw03.SiphashSums': WHATEVER THE INPUT: true; the input reads as it did. -/
def siphashSumsSpec : ChangeSpec := { name := "siphashSums", fn := fun _ => fun
  | [d1, d2] => { results := [.lit (.bool true)], args := [d1, d2] }
  | _ => none }
def siphashSumsRow : OpenClaim := { program := "ytbncbjblbdjddaa", sum := "5dd22e7c502ca377d067d5fda00cde584f888dddd3b64c740ea23a69397f889c", func := "multihop/multihoplaw03.SiphashSums", spec := "siphashSums", apart := false }
def SiphashSumsSaid : Prop := siphashSumsRow.holds Try.pinned (OpenSpec.ofChange siphashSumsSpec)

/-- ITS FALSE NEIGHBOUR: 'it returns false'. Refute it at one input. -/
def siphashSumsWrong : ChangeSpec := { name := "siphashSums", fn := fun _ => fun
  | [d1, d2] => { results := [.lit (.bool false)], args := [d1, d2] }
  | _ => none }
def SiphashSumsWrongFalsely : Prop := siphashSumsRow.holds Try.pinned (OpenSpec.ofChange siphashSumsWrong)

/-- 'multihoplaw03.SiphashPrefixes': WHATEVER THE INPUT: true; the input reads as it did. -/
def siphashPrefixesSpec : ChangeSpec := { name := "siphashPrefixes", fn := fun _ => fun
  | [d1, d2, d3, d4] => { results := [.lit (.bool true)], args := [d1, d2, d3, d4] }
  | _ => none }
def siphashPrefixesRow : OpenClaim := { program := "ytbncbjblbdjddaa", sum := "5dd22e7c502ca377d067d5fda00cde584f888dddd3b64c740ea23a69397f889c", func := "multihop/multihoplaw03.SiphashPrefixes", spec := "siphashPrefixes", apart := false }
def SiphashPrefixesSaid : Prop := siphashPrefixesRow.holds Try.pinned (OpenSpec.ofChange siphashPrefixesSpec)

/-- ITS FALSE NEIGHBOUR: 'it returns false'. Refute it at one input. -/
def siphashPrefixesWrong : ChangeSpec := { name := "siphashPrefixes", fn := fun _ => fun
  | [d1, d2, d3, d4] => { results := [.lit (.bool false)], args := [d1, d2, d3, d4] }
  | _ => none }
def SiphashPrefixesWrongFalsely : Prop := siphashPrefixesRow.holds Try.pinned (OpenSpec.ofChange siphashPrefixesWrong)

/-- 'multihoplaw03.SiphashTags': WHATEVER THE INPUT: true; the input reads as it did. -/
def siphashTagsSpec : ChangeSpec := { name := "siphashTags", fn := fun _ => fun
  | [d1, d2, d3, d4, d5, d6] => { results := [.lit (.bool true)], args := [d1, d2, d3, d4, d5, d6] }
  | _ => none }
def siphashTagsRow : OpenClaim := { program := "ytbncbjblbdjddaa", sum := "5dd22e7c502ca377d067d5fda00cde584f888dddd3b64c740ea23a69397f889c", func := "multihop/multihoplaw03.SiphashTags", spec := "siphashTags", apart := false }
def SiphashTagsSaid : Prop := siphashTagsRow.holds Try.pinned (OpenSpec.ofChange siphashTagsSpec)

/-- ITS FALSE NEIGHBOUR: 'it returns false'. Refute it at one input. -/
def siphashTagsWrong : ChangeSpec := { name := "siphashTags", fn := fun _ => fun
  | [d1, d2, d3, d4, d5, d6] => { results := [.lit (.bool false)], args := [d1, d2, d3, d4, d5, d6] }
  | _ => none }
def SiphashTagsWrongFalsely : Prop := siphashTagsRow.holds Try.pinned (OpenSpec.ofChange siphashTagsWrong)

/-- 'multihoplaw03.SiphashNumbers': WHATEVER THE INPUT: true; the input reads as it did. -/
def siphashNumbersSpec : ChangeSpec := { name := "siphashNumbers", fn := fun _ => fun
  | [d1, d2, d3] => { results := [.lit (.bool true)], args := [d1, d2, d3] }
  | _ => none }
def siphashNumbersRow : OpenClaim := { program := "ytbncbjblbdjddaa", sum := "5dd22e7c502ca377d067d5fda00cde584f888dddd3b64c740ea23a69397f889c", func := "multihop/multihoplaw03.SiphashNumbers", spec := "siphashNumbers", apart := false }
def SiphashNumbersSaid : Prop := siphashNumbersRow.holds Try.pinned (OpenSpec.ofChange siphashNumbersSpec)

/-- ITS FALSE NEIGHBOUR: 'it returns false'. Refute it at one input. -/
def siphashNumbersWrong : ChangeSpec := { name := "siphashNumbers", fn := fun _ => fun
  | [d1, d2, d3] => { results := [.lit (.bool false)], args := [d1, d2, d3] }
  | _ => none }
def SiphashNumbersWrongFalsely : Prop := siphashNumbersRow.holds Try.pinned (OpenSpec.ofChange siphashNumbersWrong)

/-- 'multihoplaw03.SiphashDerives': WHATEVER THE INPUT: true; the input reads as it did. -/
def siphashDerivesSpec : ChangeSpec := { name := "siphashDerives", fn := fun _ => fun
  | [d1, d2, d3] => { results := [.lit (.bool true)], args := [d1, d2, d3] }
  | _ => none }
def siphashDerivesRow : OpenClaim := { program := "ytbncbjblbdjddaa", sum := "5dd22e7c502ca377d067d5fda00cde584f888dddd3b64c740ea23a69397f889c", func := "multihop/multihoplaw03.SiphashDerives", spec := "siphashDerives", apart := false }
def SiphashDerivesSaid : Prop := siphashDerivesRow.holds Try.pinned (OpenSpec.ofChange siphashDerivesSpec)

/-- ITS FALSE NEIGHBOUR: 'it returns false'. Refute it at one input. -/
def siphashDerivesWrong : ChangeSpec := { name := "siphashDerives", fn := fun _ => fun
  | [d1, d2, d3] => { results := [.lit (.bool false)], args := [d1, d2, d3] }
  | _ => none }
def SiphashDerivesWrongFalsely : Prop := siphashDerivesRow.holds Try.pinned (OpenSpec.ofChange siphashDerivesWrong)

/- THE SECOND FORM. 'bulk': how many values and letters a reading holds, each counted each time it is reached (what is shared counts as often as it is met; a slice's spare places count too). A statement '..UptoSaid' is the law's where the arguments, and the package variables that the reading takes, are together of bulk at most 1048576: NARROWER than '..Said'. Prove '..Said' where nothing that the law and all that it calls make is longer than what came in: it says more and counts as full. Else prove '..UptoSaid'. A law counts once. -/
mutual
def uptoBulk {H : Type} : DataW H → Nat
  | .lit (.string bytes) => bytes.length + 1
  | .lit _ => 1
  | .nil => 1
  | .ptr d => uptoBulk d + 1
  | .slice elems spare => uptoBulkAll elems + uptoBulkAll spare + 1
  | .agg parts => uptoBulkAll parts + 1
  | .iface _ d => uptoBulk d + 1
  | .map entries => uptoBulkEntries entries + 1
  | .held _ => 1
def uptoBulkAll {H : Type} : List (DataW H) → Nat
  | [] => 0
  | d :: r => uptoBulk d + uptoBulkAll r
def uptoBulkEntries {H : Type} : List (Lit × DataW H) → Nat
  | [] => 0
  | x :: r => uptoBulkEntry x + uptoBulkEntries r
def uptoBulkEntry {H : Type} : Lit × DataW H → Nat
  | (.string bytes, d) => bytes.length + uptoBulk d + 1
  | (_, d) => uptoBulk d + 1
 end
def uptoSmall : (H : Type) → List (DataW H) → Bool := fun _ ds => decide (uptoBulkAll ds ≤ 1048576)
def OpenSpec.upto (s : _root_.Go.ChangeSpec) : _root_.Go.OpenSpec := { _root_.Go.OpenSpec.ofChange s with cond := some uptoSmall }

/-- 'multihoplaw03.SiphashSums', WHERE WHAT IT READS IS OF BULK AT MOST 1048576: true; the input reads as it did. -/
def siphashSumsUptoRow : OpenClaim := { program := "ytbncbjblbdjddaa", sum := "5dd22e7c502ca377d067d5fda00cde584f888dddd3b64c740ea23a69397f889c", func := "multihop/multihoplaw03.SiphashSums", spec := "siphashSums", apart := false, narrowed := true }
def SiphashSumsUptoSaid : Prop := siphashSumsUptoRow.holds Try.pinned (OpenSpec.upto siphashSumsSpec)

/-- 'multihoplaw03.SiphashPrefixes', WHERE WHAT IT READS IS OF BULK AT MOST 1048576: true; the input reads as it did. -/
def siphashPrefixesUptoRow : OpenClaim := { program := "ytbncbjblbdjddaa", sum := "5dd22e7c502ca377d067d5fda00cde584f888dddd3b64c740ea23a69397f889c", func := "multihop/multihoplaw03.SiphashPrefixes", spec := "siphashPrefixes", apart := false, narrowed := true }
def SiphashPrefixesUptoSaid : Prop := siphashPrefixesUptoRow.holds Try.pinned (OpenSpec.upto siphashPrefixesSpec)

/-- 'multihoplaw03.SiphashTags', WHERE WHAT IT READS IS OF BULK AT MOST 1048576: true; the input reads as it did. -/
def siphashTagsUptoRow : OpenClaim := { program := "ytbncbjblbdjddaa", sum := "5dd22e7c502ca377d067d5fda00cde584f888dddd3b64c740ea23a69397f889c", func := "multihop/multihoplaw03.SiphashTags", spec := "siphashTags", apart := false, narrowed := true }
def SiphashTagsUptoSaid : Prop := siphashTagsUptoRow.holds Try.pinned (OpenSpec.upto siphashTagsSpec)

/-- 'multihoplaw03.SiphashNumbers', WHERE WHAT IT READS IS OF BULK AT MOST 1048576: true; the input reads as it did. -/
def siphashNumbersUptoRow : OpenClaim := { program := "ytbncbjblbdjddaa", sum := "5dd22e7c502ca377d067d5fda00cde584f888dddd3b64c740ea23a69397f889c", func := "multihop/multihoplaw03.SiphashNumbers", spec := "siphashNumbers", apart := false, narrowed := true }
def SiphashNumbersUptoSaid : Prop := siphashNumbersUptoRow.holds Try.pinned (OpenSpec.upto siphashNumbersSpec)

/-- 'multihoplaw03.SiphashDerives', WHERE WHAT IT READS IS OF BULK AT MOST 1048576: true; the input reads as it did. -/
def siphashDerivesUptoRow : OpenClaim := { program := "ytbncbjblbdjddaa", sum := "5dd22e7c502ca377d067d5fda00cde584f888dddd3b64c740ea23a69397f889c", func := "multihop/multihoplaw03.SiphashDerives", spec := "siphashDerives", apart := false, narrowed := true }
def SiphashDerivesUptoSaid : Prop := siphashDerivesUptoRow.holds Try.pinned (OpenSpec.upto siphashDerivesSpec)

end Rows
end Go.Proofs.Ytbncbjblbdjddaa
