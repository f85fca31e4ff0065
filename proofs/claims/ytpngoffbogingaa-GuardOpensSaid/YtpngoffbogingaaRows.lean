/-
  No cell of these rows narrows 'for every input' (looked for: loops, veiled, ifaces, maps, wideKeys, modest, calm, conditions, laid).
  DERIVED. THE GIVEN ROWS OF THIS SEAT. 7 by the template 'for every input the law returns true; each argument reads behind the call as it read before'; 0 by the template 'total and deterministic' (their statements: YtpngoffbogingaaTotals.lean).
  GIVEN WITH THE SEED: the statements are not yours to turn. If you find one false, say at which input.
  Laid BY PROGRAM, IN A SANDBOX (cutbox-rows.mjs): the forced cells as the released guide's own fill.sh prints them over the translation bed26e617a61e90b… (all of the seat's roots in one cut). By AI agents, Wed Nov 11 2026. No macro, syntax, notation, axiom, sorry.
-/
import Derived.Test.YtpngoffbogingaaChecked
import GoSem.Claim
import GoSem.ClaimJoined
import GoSem.ClaimMapViews
import Derived.JoinedTies
import Derived.KernelRfl
namespace Go.Proofs.Ytpngoffbogingaa
/- THE CELL 'sum', in the pinned program and in every row, IS THE sha256 OF THE DUMP (.gsa) THAT YtpngoffbogingaaProg.lean LOADS. Nothing in Lean hashes anything: it is a label: what it is worth is what the hold of that sum in a sandbox is worth. -/
noncomputable def Try.pinned : Pinned := { name := "ytpngoffbogingaa", sum := "bed26e617a61e90bdb64d9bc6e3b2ce8834ea8fccce2a3c257e34d0b186e5acb", checked := Try.checked }
namespace Rows
def none {H : Type} : Left H := { results := [], args := [] }

/-- 'multihoplaw06.GuardOpens': WHATEVER THE INPUT: true; the input reads as it did. -/
def guardOpensSpec : ChangeSpec := { name := "guardOpens", fn := fun _ => fun
  | [d1, d2, d3] => { results := [.lit (.bool true)], args := [d1, d2, d3] }
  | _ => none }
def guardOpensRow : OpenClaim := { program := "ytpngoffbogingaa", sum := "bed26e617a61e90bdb64d9bc6e3b2ce8834ea8fccce2a3c257e34d0b186e5acb", func := "multihop/multihoplaw06.GuardOpens", spec := "guardOpens", unfollowed := true, recurses := true, apart := false }
def GuardOpensSaid : Prop := guardOpensRow.holds Try.pinned (OpenSpec.ofChange guardOpensSpec)

/-- ITS FALSE NEIGHBOUR: 'it returns false'. Refute it at one input. -/
def guardOpensWrong : ChangeSpec := { name := "guardOpens", fn := fun _ => fun
  | [d1, d2, d3] => { results := [.lit (.bool false)], args := [d1, d2, d3] }
  | _ => none }
def GuardOpensWrongFalsely : Prop := guardOpensRow.holds Try.pinned (OpenSpec.ofChange guardOpensWrong)

/-- 'multihoplaw06.GuardSeals': WHATEVER THE INPUT: true; the input reads as it did. -/
def guardSealsSpec : ChangeSpec := { name := "guardSeals", fn := fun _ => fun
  | [d] => { results := [.lit (.bool true)], args := [d] }
  | _ => none }
def guardSealsRow : OpenClaim := { program := "ytpngoffbogingaa", sum := "bed26e617a61e90bdb64d9bc6e3b2ce8834ea8fccce2a3c257e34d0b186e5acb", func := "multihop/multihoplaw06.GuardSeals", spec := "guardSeals", unfollowed := true, recurses := true, apart := false }
def GuardSealsSaid : Prop := guardSealsRow.holds Try.pinned (OpenSpec.ofChange guardSealsSpec)

/-- ITS FALSE NEIGHBOUR: 'it returns false'. Refute it at one input. -/
def guardSealsWrong : ChangeSpec := { name := "guardSeals", fn := fun _ => fun
  | [d] => { results := [.lit (.bool false)], args := [d] }
  | _ => none }
def GuardSealsWrongFalsely : Prop := guardSealsRow.holds Try.pinned (OpenSpec.ofChange guardSealsWrong)

/-- 'multihoplaw06.GuardMessages': WHATEVER THE INPUT: true; the input reads as it did. -/
def guardMessagesSpec : ChangeSpec := { name := "guardMessages", fn := fun _ => fun
  | [d1, d2, d3] => { results := [.lit (.bool true)], args := [d1, d2, d3] }
  | _ => none }
def guardMessagesRow : OpenClaim := { program := "ytpngoffbogingaa", sum := "bed26e617a61e90bdb64d9bc6e3b2ce8834ea8fccce2a3c257e34d0b186e5acb", func := "multihop/multihoplaw06.GuardMessages", spec := "guardMessages", unfollowed := true, recurses := true, apart := false }
def GuardMessagesSaid : Prop := guardMessagesRow.holds Try.pinned (OpenSpec.ofChange guardMessagesSpec)

/-- ITS FALSE NEIGHBOUR: 'it returns false'. Refute it at one input. -/
def guardMessagesWrong : ChangeSpec := { name := "guardMessages", fn := fun _ => fun
  | [d1, d2, d3] => { results := [.lit (.bool false)], args := [d1, d2, d3] }
  | _ => none }
def GuardMessagesWrongFalsely : Prop := guardMessagesRow.holds Try.pinned (OpenSpec.ofChange guardMessagesWrong)

/-- 'multihoplaw06.GuardOnce': WHATEVER THE INPUT: true; the input reads as it did. -/
def guardOnceSpec : ChangeSpec := { name := "guardOnce", fn := fun _ => fun
  | [d1, d2] => { results := [.lit (.bool true)], args := [d1, d2] }
  | _ => none }
def guardOnceRow : OpenClaim := { program := "ytpngoffbogingaa", sum := "bed26e617a61e90bdb64d9bc6e3b2ce8834ea8fccce2a3c257e34d0b186e5acb", func := "multihop/multihoplaw06.GuardOnce", spec := "guardOnce", unfollowed := true, recurses := true, apart := false }
def GuardOnceSaid : Prop := guardOnceRow.holds Try.pinned (OpenSpec.ofChange guardOnceSpec)

/-- ITS FALSE NEIGHBOUR: 'it returns false'. Refute it at one input. -/
def guardOnceWrong : ChangeSpec := { name := "guardOnce", fn := fun _ => fun
  | [d1, d2] => { results := [.lit (.bool false)], args := [d1, d2] }
  | _ => none }
def GuardOnceWrongFalsely : Prop := guardOnceRow.holds Try.pinned (OpenSpec.ofChange guardOnceWrong)

/-- 'multihoplaw06.GuardForged': WHATEVER THE INPUT: true; the input reads as it did. -/
def guardForgedSpec : ChangeSpec := { name := "guardForged", fn := fun _ => fun
  | [d1, d2, d3] => { results := [.lit (.bool true)], args := [d1, d2, d3] }
  | _ => none }
def guardForgedRow : OpenClaim := { program := "ytpngoffbogingaa", sum := "bed26e617a61e90bdb64d9bc6e3b2ce8834ea8fccce2a3c257e34d0b186e5acb", func := "multihop/multihoplaw06.GuardForged", spec := "guardForged", unfollowed := true, recurses := true, apart := false }
def GuardForgedSaid : Prop := guardForgedRow.holds Try.pinned (OpenSpec.ofChange guardForgedSpec)

/-- ITS FALSE NEIGHBOUR: 'it returns false'. Refute it at one input. -/
def guardForgedWrong : ChangeSpec := { name := "guardForged", fn := fun _ => fun
  | [d1, d2, d3] => { results := [.lit (.bool false)], args := [d1, d2, d3] }
  | _ => none }
def GuardForgedWrongFalsely : Prop := guardForgedRow.holds Try.pinned (OpenSpec.ofChange guardForgedWrong)

/-- 'multihoplaw06.GuardForgets': WHATEVER THE INPUT: true; the input reads as it did. -/
def guardForgetsSpec : ChangeSpec := { name := "guardForgets", fn := fun _ => fun
  | [d1, d2, d3] => { results := [.lit (.bool true)], args := [d1, d2, d3] }
  | _ => none }
def guardForgetsRow : OpenClaim := { program := "ytpngoffbogingaa", sum := "bed26e617a61e90bdb64d9bc6e3b2ce8834ea8fccce2a3c257e34d0b186e5acb", func := "multihop/multihoplaw06.GuardForgets", spec := "guardForgets", unfollowed := true, recurses := true, apart := false }
def GuardForgetsSaid : Prop := guardForgetsRow.holds Try.pinned (OpenSpec.ofChange guardForgetsSpec)

/-- ITS FALSE NEIGHBOUR: 'it returns false'. Refute it at one input. -/
def guardForgetsWrong : ChangeSpec := { name := "guardForgets", fn := fun _ => fun
  | [d1, d2, d3] => { results := [.lit (.bool false)], args := [d1, d2, d3] }
  | _ => none }
def GuardForgetsWrongFalsely : Prop := guardForgetsRow.holds Try.pinned (OpenSpec.ofChange guardForgetsWrong)

/-- 'multihoplaw06.GuardRestarts': WHATEVER THE INPUT: true; the input reads as it did. -/
def guardRestartsSpec : ChangeSpec := { name := "guardRestarts", fn := fun _ => fun
  | [d] => { results := [.lit (.bool true)], args := [d] }
  | _ => none }
def guardRestartsRow : OpenClaim := { program := "ytpngoffbogingaa", sum := "bed26e617a61e90bdb64d9bc6e3b2ce8834ea8fccce2a3c257e34d0b186e5acb", func := "multihop/multihoplaw06.GuardRestarts", spec := "guardRestarts", unfollowed := true, recurses := true, apart := false }
def GuardRestartsSaid : Prop := guardRestartsRow.holds Try.pinned (OpenSpec.ofChange guardRestartsSpec)

/-- ITS FALSE NEIGHBOUR: 'it returns false'. Refute it at one input. -/
def guardRestartsWrong : ChangeSpec := { name := "guardRestarts", fn := fun _ => fun
  | [d] => { results := [.lit (.bool false)], args := [d] }
  | _ => none }
def GuardRestartsWrongFalsely : Prop := guardRestartsRow.holds Try.pinned (OpenSpec.ofChange guardRestartsWrong)

/- THE SECOND FORM. 'bulk': how many values and letters a reading holds, each counted each time it is reached (what is shared counts as often as it is met; a slice's spare places count too). A statement '..UptoSaid' is the law's where the arguments, and the package variables that the reading takes, are together of bulk at most 1048576: NARROWER than '..Said'. Prove '..Said' where nothing that the law and all that it calls make is longer than what came in: it says more and counts as full. Else prove '..UptoSaid'. A law counts once. -/
mutual
def uptoBulk {H : Type} : DataW H → Nat
  | .lit (.string bytes) => bytes.length + 1
  | .lit _ => 1
  | .nil => 1
  | .ptr d => uptoBulk d + 1
  | .slice elems spare => uptoBulkAll elems + uptoBulkAll spare + 1
  | .agg parts => uptoBulkAll parts + 1
  | .iface _ d => uptoBulk d + 1
  | .map entries => uptoBulkEntries entries + 1
  | .held _ => 1
def uptoBulkAll {H : Type} : List (DataW H) → Nat
  | [] => 0
  | d :: r => uptoBulk d + uptoBulkAll r
def uptoBulkEntries {H : Type} : List (Lit × DataW H) → Nat
  | [] => 0
  | x :: r => uptoBulkEntry x + uptoBulkEntries r
def uptoBulkEntry {H : Type} : Lit × DataW H → Nat
  | (.string bytes, d) => bytes.length + uptoBulk d + 1
  | (_, d) => uptoBulk d + 1
 end
def uptoSmall : (H : Type) → List (DataW H) → Bool := fun _ ds => decide (uptoBulkAll ds ≤ 1048576)
def OpenSpec.upto (s : _root_.Go.ChangeSpec) : _root_.Go.OpenSpec := { _root_.Go.OpenSpec.ofChange s with cond := some uptoSmall }

/-- 'multihoplaw06.GuardOpens', WHERE WHAT IT READS IS OF BULK AT MOST 1048576: true; the input reads as it did. -/
def guardOpensUptoRow : OpenClaim := { program := "ytpngoffbogingaa", sum := "bed26e617a61e90bdb64d9bc6e3b2ce8834ea8fccce2a3c257e34d0b186e5acb", func := "multihop/multihoplaw06.GuardOpens", spec := "guardOpens", unfollowed := true, recurses := true, apart := false, narrowed := true }
def GuardOpensUptoSaid : Prop := guardOpensUptoRow.holds Try.pinned (OpenSpec.upto guardOpensSpec)

/-- 'multihoplaw06.GuardSeals', WHERE WHAT IT READS IS OF BULK AT MOST 1048576: true; the input reads as it did. -/
def guardSealsUptoRow : OpenClaim := { program := "ytpngoffbogingaa", sum := "bed26e617a61e90bdb64d9bc6e3b2ce8834ea8fccce2a3c257e34d0b186e5acb", func := "multihop/multihoplaw06.GuardSeals", spec := "guardSeals", unfollowed := true, recurses := true, apart := false, narrowed := true }
def GuardSealsUptoSaid : Prop := guardSealsUptoRow.holds Try.pinned (OpenSpec.upto guardSealsSpec)

/-- 'multihoplaw06.GuardMessages', WHERE WHAT IT READS IS OF BULK AT MOST 1048576: true; the input reads as it did. -/
def guardMessagesUptoRow : OpenClaim := { program := "ytpngoffbogingaa", sum := "bed26e617a61e90bdb64d9bc6e3b2ce8834ea8fccce2a3c257e34d0b186e5acb", func := "multihop/multihoplaw06.GuardMessages", spec := "guardMessages", unfollowed := true, recurses := true, apart := false, narrowed := true }
def GuardMessagesUptoSaid : Prop := guardMessagesUptoRow.holds Try.pinned (OpenSpec.upto guardMessagesSpec)

/-- 'multihoplaw06.GuardOnce', WHERE WHAT IT READS IS OF BULK AT MOST 1048576: true; the input reads as it did. -/
def guardOnceUptoRow : OpenClaim := { program := "ytpngoffbogingaa", sum := "bed26e617a61e90bdb64d9bc6e3b2ce8834ea8fccce2a3c257e34d0b186e5acb", func := "multihop/multihoplaw06.GuardOnce", spec := "guardOnce", unfollowed := true, recurses := true, apart := false, narrowed := true }
def GuardOnceUptoSaid : Prop := guardOnceUptoRow.holds Try.pinned (OpenSpec.upto guardOnceSpec)

/-- 'multihoplaw06.GuardForged', WHERE WHAT IT READS IS OF BULK AT MOST 1048576: true; the input reads as it did. -/
def guardForgedUptoRow : OpenClaim := { program := "ytpngoffbogingaa", sum := "bed26e617a61e90bdb64d9bc6e3b2ce8834ea8fccce2a3c257e34d0b186e5acb", func := "multihop/multihoplaw06.GuardForged", spec := "guardForged", unfollowed := true, recurses := true, apart := false, narrowed := true }
def GuardForgedUptoSaid : Prop := guardForgedUptoRow.holds Try.pinned (OpenSpec.upto guardForgedSpec)

/-- 'multihoplaw06.GuardForgets', WHERE WHAT IT READS IS OF BULK AT MOST 1048576: true; the input reads as it did. -/
def guardForgetsUptoRow : OpenClaim := { program := "ytpngoffbogingaa", sum := "bed26e617a61e90bdb64d9bc6e3b2ce8834ea8fccce2a3c257e34d0b186e5acb", func := "multihop/multihoplaw06.GuardForgets", spec := "guardForgets", unfollowed := true, recurses := true, apart := false, narrowed := true }
def GuardForgetsUptoSaid : Prop := guardForgetsUptoRow.holds Try.pinned (OpenSpec.upto guardForgetsSpec)

/-- 'multihoplaw06.GuardRestarts', WHERE WHAT IT READS IS OF BULK AT MOST 1048576: true; the input reads as it did. -/
def guardRestartsUptoRow : OpenClaim := { program := "ytpngoffbogingaa", sum := "bed26e617a61e90bdb64d9bc6e3b2ce8834ea8fccce2a3c257e34d0b186e5acb", func := "multihop/multihoplaw06.GuardRestarts", spec := "guardRestarts", unfollowed := true, recurses := true, apart := false, narrowed := true }
def GuardRestartsUptoSaid : Prop := guardRestartsUptoRow.holds Try.pinned (OpenSpec.upto guardRestartsSpec)

end Rows
end Go.Proofs.Ytpngoffbogingaa
