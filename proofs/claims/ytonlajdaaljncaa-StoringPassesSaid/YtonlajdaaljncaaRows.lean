/-
  No cell of these rows narrows 'for every input' (looked for: loops, veiled, ifaces, maps, wideKeys, modest, calm, conditions, laid).
  DERIVED. THE GIVEN ROWS OF THIS SEAT. 6 by the template 'for every input the law returns true; each argument reads behind the call as it read before'; 0 by the template 'total and deterministic' (their statements: YtonlajdaaljncaaTotals.lean).
  GIVEN WITH THE SEED: the statements are not yours to turn. If you find one false, say at which input.
  Laid BY PROGRAM, IN A SANDBOX (cutbox-rows.mjs): the forced cells as the released guide's own fill.sh prints them over the translation eb7559dbfe13834d… (all of the seat's roots in one cut). By AI agents, Wed Nov 11 2026. No macro, syntax, notation, axiom, sorry.
-/
import Derived.Test.YtonlajdaaljncaaChecked
import GoSem.Claim
import GoSem.ClaimJoined
import GoSem.ClaimMapViews
import Derived.JoinedTies
import Derived.KernelRfl
namespace Go.Proofs.Ytonlajdaaljncaa
/- THE CELL 'sum', in the pinned program and in every row, IS THE sha256 OF THE DUMP (.gsa) THAT YtonlajdaaljncaaProg.lean LOADS. Nothing in Lean hashes anything: it is a label: what it is worth is what the hold of that sum in a sandbox is worth. -/
noncomputable def Try.pinned : Pinned := { name := "ytonlajdaaljncaa", sum := "eb7559dbfe13834d77e64af3bf5adf91b099e2151818a32041020f4e13b9f11a", checked := Try.checked }
namespace Rows
def none {H : Type} : Left H := { results := [], args := [] }

/-- 'multihoplaw33.StoringNewest': WHATEVER THE INPUT: true; the input reads as it did. -/
def storingNewestSpec : ChangeSpec := { name := "storingNewest", fn := fun _ => fun
  | [d] => { results := [.lit (.bool true)], args := [d] }
  | _ => none }
def storingNewestRow : OpenClaim := { program := "ytonlajdaaljncaa", sum := "eb7559dbfe13834d77e64af3bf5adf91b099e2151818a32041020f4e13b9f11a", func := "multihop/multihoplaw33.StoringNewest", spec := "storingNewest", inPlace := ["internal/bytealg.Compare"], apart := false }
def StoringNewestSaid : Prop := storingNewestRow.holds Try.pinned (OpenSpec.ofChange storingNewestSpec)

/-- ITS FALSE NEIGHBOUR: 'it returns false'. Refute it at one input. -/
def storingNewestWrong : ChangeSpec := { name := "storingNewest", fn := fun _ => fun
  | [d] => { results := [.lit (.bool false)], args := [d] }
  | _ => none }
def StoringNewestWrongFalsely : Prop := storingNewestRow.holds Try.pinned (OpenSpec.ofChange storingNewestWrong)

/-- 'multihoplaw33.StoringNests': WHATEVER THE INPUT: true; the input reads as it did. -/
def storingNestsSpec : ChangeSpec := { name := "storingNests", fn := fun _ => fun
  | [d1, d2] => { results := [.lit (.bool true)], args := [d1, d2] }
  | _ => none }
def storingNestsRow : OpenClaim := { program := "ytonlajdaaljncaa", sum := "eb7559dbfe13834d77e64af3bf5adf91b099e2151818a32041020f4e13b9f11a", func := "multihop/multihoplaw33.StoringNests", spec := "storingNests", inPlace := ["internal/bytealg.Compare"], apart := false }
def StoringNestsSaid : Prop := storingNestsRow.holds Try.pinned (OpenSpec.ofChange storingNestsSpec)

/-- ITS FALSE NEIGHBOUR: 'it returns false'. Refute it at one input. -/
def storingNestsWrong : ChangeSpec := { name := "storingNests", fn := fun _ => fun
  | [d1, d2] => { results := [.lit (.bool false)], args := [d1, d2] }
  | _ => none }
def StoringNestsWrongFalsely : Prop := storingNestsRow.holds Try.pinned (OpenSpec.ofChange storingNestsWrong)

/-- 'multihoplaw33.StoringFills': WHATEVER THE INPUT: true; the input reads as it did. -/
def storingFillsSpec : ChangeSpec := { name := "storingFills", fn := fun _ => fun
  | [d] => { results := [.lit (.bool true)], args := [d] }
  | _ => none }
def storingFillsRow : OpenClaim := { program := "ytonlajdaaljncaa", sum := "eb7559dbfe13834d77e64af3bf5adf91b099e2151818a32041020f4e13b9f11a", func := "multihop/multihoplaw33.StoringFills", spec := "storingFills", inPlace := ["internal/bytealg.Compare"], apart := false }
def StoringFillsSaid : Prop := storingFillsRow.holds Try.pinned (OpenSpec.ofChange storingFillsSpec)

/-- ITS FALSE NEIGHBOUR: 'it returns false'. Refute it at one input. -/
def storingFillsWrong : ChangeSpec := { name := "storingFills", fn := fun _ => fun
  | [d] => { results := [.lit (.bool false)], args := [d] }
  | _ => none }
def StoringFillsWrongFalsely : Prop := storingFillsRow.holds Try.pinned (OpenSpec.ofChange storingFillsWrong)

/-- 'multihoplaw33.StoringAccepts': WHATEVER THE INPUT: true; the input reads as it did. -/
def storingAcceptsSpec : ChangeSpec := { name := "storingAccepts", fn := fun _ => fun
  | [d1, d2, d3, d4, d5] => { results := [.lit (.bool true)], args := [d1, d2, d3, d4, d5] }
  | _ => none }
def storingAcceptsRow : OpenClaim := { program := "ytonlajdaaljncaa", sum := "eb7559dbfe13834d77e64af3bf5adf91b099e2151818a32041020f4e13b9f11a", func := "multihop/multihoplaw33.StoringAccepts", spec := "storingAccepts", inPlace := ["internal/bytealg.Compare"], apart := false }
def StoringAcceptsSaid : Prop := storingAcceptsRow.holds Try.pinned (OpenSpec.ofChange storingAcceptsSpec)

/-- ITS FALSE NEIGHBOUR: 'it returns false'. Refute it at one input. -/
def storingAcceptsWrong : ChangeSpec := { name := "storingAccepts", fn := fun _ => fun
  | [d1, d2, d3, d4, d5] => { results := [.lit (.bool false)], args := [d1, d2, d3, d4, d5] }
  | _ => none }
def StoringAcceptsWrongFalsely : Prop := storingAcceptsRow.holds Try.pinned (OpenSpec.ofChange storingAcceptsWrong)

/-- 'multihoplaw33.StoringPasses': WHATEVER THE INPUT: true; the input reads as it did. -/
def storingPassesSpec : ChangeSpec := { name := "storingPasses", fn := fun _ => fun
  | [d] => { results := [.lit (.bool true)], args := [d] }
  | _ => none }
def storingPassesRow : OpenClaim := { program := "ytonlajdaaljncaa", sum := "eb7559dbfe13834d77e64af3bf5adf91b099e2151818a32041020f4e13b9f11a", func := "multihop/multihoplaw33.StoringPasses", spec := "storingPasses", inPlace := ["internal/bytealg.Compare"], unfollowed := true, recurses := true, apart := false }
def StoringPassesSaid : Prop := storingPassesRow.holds Try.pinned (OpenSpec.ofChange storingPassesSpec)

/-- ITS FALSE NEIGHBOUR: 'it returns false'. Refute it at one input. -/
def storingPassesWrong : ChangeSpec := { name := "storingPasses", fn := fun _ => fun
  | [d] => { results := [.lit (.bool false)], args := [d] }
  | _ => none }
def StoringPassesWrongFalsely : Prop := storingPassesRow.holds Try.pinned (OpenSpec.ofChange storingPassesWrong)

/-- 'multihoplaw33.StoringReads': WHATEVER THE INPUT: true; the input reads as it did. -/
def storingReadsSpec : ChangeSpec := { name := "storingReads", fn := fun _ => fun
  | [d1, d2, d3, d4, d5] => { results := [.lit (.bool true)], args := [d1, d2, d3, d4, d5] }
  | _ => none }
def storingReadsRow : OpenClaim := { program := "ytonlajdaaljncaa", sum := "eb7559dbfe13834d77e64af3bf5adf91b099e2151818a32041020f4e13b9f11a", func := "multihop/multihoplaw33.StoringReads", spec := "storingReads", inPlace := ["internal/bytealg.Compare"], unfollowed := true, recurses := true, apart := false }
def StoringReadsSaid : Prop := storingReadsRow.holds Try.pinned (OpenSpec.ofChange storingReadsSpec)

/-- ITS FALSE NEIGHBOUR: 'it returns false'. Refute it at one input. -/
def storingReadsWrong : ChangeSpec := { name := "storingReads", fn := fun _ => fun
  | [d1, d2, d3, d4, d5] => { results := [.lit (.bool false)], args := [d1, d2, d3, d4, d5] }
  | _ => none }
def StoringReadsWrongFalsely : Prop := storingReadsRow.holds Try.pinned (OpenSpec.ofChange storingReadsWrong)

/- THE SECOND FORM. 'bulk': how many values and letters a reading holds, each counted each time it is reached (what is shared counts as often as it is met; a slice's spare places count too). A statement '..UptoSaid' is the law's where the arguments, and the package variables that the reading takes, are together of bulk at most 1048576: NARROWER than '..Said'. Prove '..Said' where nothing that the law and all that it calls make is longer than what came in: it says more and counts as full. Else prove '..UptoSaid'. A law counts once. -/
mutual
def uptoBulk {H : Type} : DataW H → Nat
  | .lit (.string bytes) => bytes.length + 1
  | .lit _ => 1
  | .nil => 1
  | .ptr d => uptoBulk d + 1
  | .slice elems spare => uptoBulkAll elems + uptoBulkAll spare + 1
  | .agg parts => uptoBulkAll parts + 1
  | .iface _ d => uptoBulk d + 1
  | .map entries => uptoBulkEntries entries + 1
  | .held _ => 1
def uptoBulkAll {H : Type} : List (DataW H) → Nat
  | [] => 0
  | d :: r => uptoBulk d + uptoBulkAll r
def uptoBulkEntries {H : Type} : List (Lit × DataW H) → Nat
  | [] => 0
  | x :: r => uptoBulkEntry x + uptoBulkEntries r
def uptoBulkEntry {H : Type} : Lit × DataW H → Nat
  | (.string bytes, d) => bytes.length + uptoBulk d + 1
  | (_, d) => uptoBulk d + 1
 end
def uptoSmall : (H : Type) → List (DataW H) → Bool := fun _ ds => decide (uptoBulkAll ds ≤ 1048576)
def OpenSpec.upto (s : _root_.Go.ChangeSpec) : _root_.Go.OpenSpec := { _root_.Go.OpenSpec.ofChange s with cond := some uptoSmall }

/-- 'multihoplaw33.StoringNewest', WHERE WHAT IT READS IS OF BULK AT MOST 1048576: true; the input reads as it did. -/
def storingNewestUptoRow : OpenClaim := { program := "ytonlajdaaljncaa", sum := "eb7559dbfe13834d77e64af3bf5adf91b099e2151818a32041020f4e13b9f11a", func := "multihop/multihoplaw33.StoringNewest", spec := "storingNewest", inPlace := ["internal/bytealg.Compare"], apart := false, narrowed := true }
def StoringNewestUptoSaid : Prop := storingNewestUptoRow.holds Try.pinned (OpenSpec.upto storingNewestSpec)

/-- 'multihoplaw33.StoringNests', WHERE WHAT IT READS IS OF BULK AT MOST 1048576: true; the input reads as it did. -/
def storingNestsUptoRow : OpenClaim := { program := "ytonlajdaaljncaa", sum := "eb7559dbfe13834d77e64af3bf5adf91b099e2151818a32041020f4e13b9f11a", func := "multihop/multihoplaw33.StoringNests", spec := "storingNests", inPlace := ["internal/bytealg.Compare"], apart := false, narrowed := true }
def StoringNestsUptoSaid : Prop := storingNestsUptoRow.holds Try.pinned (OpenSpec.upto storingNestsSpec)

/-- 'multihoplaw33.StoringFills', WHERE WHAT IT READS IS OF BULK AT MOST 1048576: true; the input reads as it did. -/
def storingFillsUptoRow : OpenClaim := { program := "ytonlajdaaljncaa", sum := "eb7559dbfe13834d77e64af3bf5adf91b099e2151818a32041020f4e13b9f11a", func := "multihop/multihoplaw33.StoringFills", spec := "storingFills", inPlace := ["internal/bytealg.Compare"], apart := false, narrowed := true }
def StoringFillsUptoSaid : Prop := storingFillsUptoRow.holds Try.pinned (OpenSpec.upto storingFillsSpec)

/-- 'multihoplaw33.StoringAccepts', WHERE WHAT IT READS IS OF BULK AT MOST 1048576: true; the input reads as it did. -/
def storingAcceptsUptoRow : OpenClaim := { program := "ytonlajdaaljncaa", sum := "eb7559dbfe13834d77e64af3bf5adf91b099e2151818a32041020f4e13b9f11a", func := "multihop/multihoplaw33.StoringAccepts", spec := "storingAccepts", inPlace := ["internal/bytealg.Compare"], apart := false, narrowed := true }
def StoringAcceptsUptoSaid : Prop := storingAcceptsUptoRow.holds Try.pinned (OpenSpec.upto storingAcceptsSpec)

/-- 'multihoplaw33.StoringPasses', WHERE WHAT IT READS IS OF BULK AT MOST 1048576: true; the input reads as it did. -/
def storingPassesUptoRow : OpenClaim := { program := "ytonlajdaaljncaa", sum := "eb7559dbfe13834d77e64af3bf5adf91b099e2151818a32041020f4e13b9f11a", func := "multihop/multihoplaw33.StoringPasses", spec := "storingPasses", inPlace := ["internal/bytealg.Compare"], unfollowed := true, recurses := true, apart := false, narrowed := true }
def StoringPassesUptoSaid : Prop := storingPassesUptoRow.holds Try.pinned (OpenSpec.upto storingPassesSpec)

/-- 'multihoplaw33.StoringReads', WHERE WHAT IT READS IS OF BULK AT MOST 1048576: true; the input reads as it did. -/
def storingReadsUptoRow : OpenClaim := { program := "ytonlajdaaljncaa", sum := "eb7559dbfe13834d77e64af3bf5adf91b099e2151818a32041020f4e13b9f11a", func := "multihop/multihoplaw33.StoringReads", spec := "storingReads", inPlace := ["internal/bytealg.Compare"], unfollowed := true, recurses := true, apart := false, narrowed := true }
def StoringReadsUptoSaid : Prop := storingReadsUptoRow.holds Try.pinned (OpenSpec.upto storingReadsSpec)

end Rows
end Go.Proofs.Ytonlajdaaljncaa
