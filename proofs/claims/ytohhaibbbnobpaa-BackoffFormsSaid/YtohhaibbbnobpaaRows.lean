/-
  No cell of these rows narrows 'for every input' (looked for: loops, veiled, ifaces, maps, wideKeys, modest, calm, conditions, laid).
  DERIVED. THE GIVEN ROWS OF THIS SEAT. 6 by the template 'for every input the law returns true; each argument reads behind the call as it read before'; 0 by the template 'total and deterministic' (their statements: YtohhaibbbnobpaaTotals.lean).
  GIVEN WITH THE SEED: the statements are not yours to turn. If you find one false, say at which input.
  Laid BY PROGRAM, IN A SANDBOX (cutbox-rows.mjs): the forced cells as the released guide's own fill.sh prints them over the translation e84eeeb116041dfe… (all of the seat's roots in one cut). By AI agents, Wed Nov 11 2026. No macro, syntax, notation, axiom, sorry.
-/
import Derived.Test.YtohhaibbbnobpaaChecked
import GoSem.Claim
import GoSem.ClaimJoined
import GoSem.ClaimMapViews
import Derived.JoinedTies
import Derived.KernelRfl
namespace Go.Proofs.Ytohhaibbbnobpaa
/- THE CELL 'sum', in the pinned program and in every row, IS THE sha256 OF THE DUMP (.gsa) THAT YtohhaibbbnobpaaProg.lean LOADS. Nothing in Lean hashes anything: it is a label: what it is worth is what the hold of that sum in a sandbox is worth. -/
noncomputable def Try.pinned : Pinned := { name := "ytohhaibbbnobpaa", sum := "e84eeeb116041dfefbed92304887993083a0c0714c28234bfd41bf05bbdeab2c", checked := Try.checked }
namespace Rows
def none {H : Type} : Left H := { results := [], args := [] }

/-- 'multihoplaw08.BackoffForms': WHATEVER THE INPUT: true; the input reads as it did. -/
def backoffFormsSpec : ChangeSpec := { name := "backoffForms", fn := fun _ => fun
  | [d1, d2, d3, d4, d5] => { results := [.lit (.bool true)], args := [d1, d2, d3, d4, d5] }
  | _ => none }
def backoffFormsRow : OpenClaim := { program := "ytohhaibbbnobpaa", sum := "e84eeeb116041dfefbed92304887993083a0c0714c28234bfd41bf05bbdeab2c", func := "multihop/multihoplaw08.BackoffForms", spec := "backoffForms", apart := false }
def BackoffFormsSaid : Prop := backoffFormsRow.holds Try.pinned (OpenSpec.ofChange backoffFormsSpec)

/-- ITS FALSE NEIGHBOUR: 'it returns false'. Refute it at one input. -/
def backoffFormsWrong : ChangeSpec := { name := "backoffForms", fn := fun _ => fun
  | [d1, d2, d3, d4, d5] => { results := [.lit (.bool false)], args := [d1, d2, d3, d4, d5] }
  | _ => none }
def BackoffFormsWrongFalsely : Prop := backoffFormsRow.holds Try.pinned (OpenSpec.ofChange backoffFormsWrong)

/-- 'multihoplaw08.BackoffPlays': WHATEVER THE INPUT: true; the input reads as it did. -/
def backoffPlaysSpec : ChangeSpec := { name := "backoffPlays", fn := fun _ => fun
  | [d1, d2] => { results := [.lit (.bool true)], args := [d1, d2] }
  | _ => none }
def backoffPlaysRow : OpenClaim := { program := "ytohhaibbbnobpaa", sum := "e84eeeb116041dfefbed92304887993083a0c0714c28234bfd41bf05bbdeab2c", func := "multihop/multihoplaw08.BackoffPlays", spec := "backoffPlays", apart := false }
def BackoffPlaysSaid : Prop := backoffPlaysRow.holds Try.pinned (OpenSpec.ofChange backoffPlaysSpec)

/-- ITS FALSE NEIGHBOUR: 'it returns false'. Refute it at one input. -/
def backoffPlaysWrong : ChangeSpec := { name := "backoffPlays", fn := fun _ => fun
  | [d1, d2] => { results := [.lit (.bool false)], args := [d1, d2] }
  | _ => none }
def BackoffPlaysWrongFalsely : Prop := backoffPlaysRow.holds Try.pinned (OpenSpec.ofChange backoffPlaysWrong)

/-- 'multihoplaw08.BackoffEnds': WHATEVER THE INPUT: true; the input reads as it did. -/
def backoffEndsSpec : ChangeSpec := { name := "backoffEnds", fn := fun _ => fun
  | [d1, d2] => { results := [.lit (.bool true)], args := [d1, d2] }
  | _ => none }
def backoffEndsRow : OpenClaim := { program := "ytohhaibbbnobpaa", sum := "e84eeeb116041dfefbed92304887993083a0c0714c28234bfd41bf05bbdeab2c", func := "multihop/multihoplaw08.BackoffEnds", spec := "backoffEnds", apart := false }
def BackoffEndsSaid : Prop := backoffEndsRow.holds Try.pinned (OpenSpec.ofChange backoffEndsSpec)

/-- ITS FALSE NEIGHBOUR: 'it returns false'. Refute it at one input. -/
def backoffEndsWrong : ChangeSpec := { name := "backoffEnds", fn := fun _ => fun
  | [d1, d2] => { results := [.lit (.bool false)], args := [d1, d2] }
  | _ => none }
def BackoffEndsWrongFalsely : Prop := backoffEndsRow.holds Try.pinned (OpenSpec.ofChange backoffEndsWrong)

/-- 'multihoplaw08.BackoffClear': WHATEVER THE INPUT: true; the input reads as it did. -/
def backoffClearSpec : ChangeSpec := { name := "backoffClear", fn := fun _ => fun
  | [d1, d2] => { results := [.lit (.bool true)], args := [d1, d2] }
  | _ => none }
def backoffClearRow : OpenClaim := { program := "ytohhaibbbnobpaa", sum := "e84eeeb116041dfefbed92304887993083a0c0714c28234bfd41bf05bbdeab2c", func := "multihop/multihoplaw08.BackoffClear", spec := "backoffClear", apart := false }
def BackoffClearSaid : Prop := backoffClearRow.holds Try.pinned (OpenSpec.ofChange backoffClearSpec)

/-- ITS FALSE NEIGHBOUR: 'it returns false'. Refute it at one input. -/
def backoffClearWrong : ChangeSpec := { name := "backoffClear", fn := fun _ => fun
  | [d1, d2] => { results := [.lit (.bool false)], args := [d1, d2] }
  | _ => none }
def BackoffClearWrongFalsely : Prop := backoffClearRow.holds Try.pinned (OpenSpec.ofChange backoffClearWrong)

/-- 'multihoplaw08.BackoffFails': WHATEVER THE INPUT: true; the input reads as it did. -/
def backoffFailsSpec : ChangeSpec := { name := "backoffFails", fn := fun _ => fun
  | [d1, d2] => { results := [.lit (.bool true)], args := [d1, d2] }
  | _ => none }
def backoffFailsRow : OpenClaim := { program := "ytohhaibbbnobpaa", sum := "e84eeeb116041dfefbed92304887993083a0c0714c28234bfd41bf05bbdeab2c", func := "multihop/multihoplaw08.BackoffFails", spec := "backoffFails", apart := false }
def BackoffFailsSaid : Prop := backoffFailsRow.holds Try.pinned (OpenSpec.ofChange backoffFailsSpec)

/-- ITS FALSE NEIGHBOUR: 'it returns false'. Refute it at one input. -/
def backoffFailsWrong : ChangeSpec := { name := "backoffFails", fn := fun _ => fun
  | [d1, d2] => { results := [.lit (.bool false)], args := [d1, d2] }
  | _ => none }
def BackoffFailsWrongFalsely : Prop := backoffFailsRow.holds Try.pinned (OpenSpec.ofChange backoffFailsWrong)

/-- 'multihoplaw08.BackoffQuiet': WHATEVER THE INPUT: true; the input reads as it did. -/
def backoffQuietSpec : ChangeSpec := { name := "backoffQuiet", fn := fun _ => fun
  | [d1, d2] => { results := [.lit (.bool true)], args := [d1, d2] }
  | _ => none }
def backoffQuietRow : OpenClaim := { program := "ytohhaibbbnobpaa", sum := "e84eeeb116041dfefbed92304887993083a0c0714c28234bfd41bf05bbdeab2c", func := "multihop/multihoplaw08.BackoffQuiet", spec := "backoffQuiet", apart := false }
def BackoffQuietSaid : Prop := backoffQuietRow.holds Try.pinned (OpenSpec.ofChange backoffQuietSpec)

/-- ITS FALSE NEIGHBOUR: 'it returns false'. Refute it at one input. -/
def backoffQuietWrong : ChangeSpec := { name := "backoffQuiet", fn := fun _ => fun
  | [d1, d2] => { results := [.lit (.bool false)], args := [d1, d2] }
  | _ => none }
def BackoffQuietWrongFalsely : Prop := backoffQuietRow.holds Try.pinned (OpenSpec.ofChange backoffQuietWrong)

/- THE SECOND FORM. 'bulk': how many values and letters a reading holds, each counted each time it is reached (what is shared counts as often as it is met; a slice's spare places count too). A statement '..UptoSaid' is the law's where the arguments, and the package variables that the reading takes, are together of bulk at most 1048576: NARROWER than '..Said'. Prove '..Said' where nothing that the law and all that it calls make is longer than what came in: it says more and counts as full. Else prove '..UptoSaid'. A law counts once. -/
mutual
def uptoBulk {H : Type} : DataW H → Nat
  | .lit (.string bytes) => bytes.length + 1
  | .lit _ => 1
  | .nil => 1
  | .ptr d => uptoBulk d + 1
  | .slice elems spare => uptoBulkAll elems + uptoBulkAll spare + 1
  | .agg parts => uptoBulkAll parts + 1
  | .iface _ d => uptoBulk d + 1
  | .map entries => uptoBulkEntries entries + 1
  | .held _ => 1
def uptoBulkAll {H : Type} : List (DataW H) → Nat
  | [] => 0
  | d :: r => uptoBulk d + uptoBulkAll r
def uptoBulkEntries {H : Type} : List (Lit × DataW H) → Nat
  | [] => 0
  | x :: r => uptoBulkEntry x + uptoBulkEntries r
def uptoBulkEntry {H : Type} : Lit × DataW H → Nat
  | (.string bytes, d) => bytes.length + uptoBulk d + 1
  | (_, d) => uptoBulk d + 1
 end
def uptoSmall : (H : Type) → List (DataW H) → Bool := fun _ ds => decide (uptoBulkAll ds ≤ 1048576)
def OpenSpec.upto (s : _root_.Go.ChangeSpec) : _root_.Go.OpenSpec := { _root_.Go.OpenSpec.ofChange s with cond := some uptoSmall }

/-- 'multihoplaw08.BackoffForms', WHERE WHAT IT READS IS OF BULK AT MOST 1048576: true; the input reads as it did. -/
def backoffFormsUptoRow : OpenClaim := { program := "ytohhaibbbnobpaa", sum := "e84eeeb116041dfefbed92304887993083a0c0714c28234bfd41bf05bbdeab2c", func := "multihop/multihoplaw08.BackoffForms", spec := "backoffForms", apart := false, narrowed := true }
def BackoffFormsUptoSaid : Prop := backoffFormsUptoRow.holds Try.pinned (OpenSpec.upto backoffFormsSpec)

/-- 'multihoplaw08.BackoffPlays', WHERE WHAT IT READS IS OF BULK AT MOST 1048576: true; the input reads as it did. -/
def backoffPlaysUptoRow : OpenClaim := { program := "ytohhaibbbnobpaa", sum := "e84eeeb116041dfefbed92304887993083a0c0714c28234bfd41bf05bbdeab2c", func := "multihop/multihoplaw08.BackoffPlays", spec := "backoffPlays", apart := false, narrowed := true }
def BackoffPlaysUptoSaid : Prop := backoffPlaysUptoRow.holds Try.pinned (OpenSpec.upto backoffPlaysSpec)

/-- 'multihoplaw08.BackoffEnds', WHERE WHAT IT READS IS OF BULK AT MOST 1048576: true; the input reads as it did. -/
def backoffEndsUptoRow : OpenClaim := { program := "ytohhaibbbnobpaa", sum := "e84eeeb116041dfefbed92304887993083a0c0714c28234bfd41bf05bbdeab2c", func := "multihop/multihoplaw08.BackoffEnds", spec := "backoffEnds", apart := false, narrowed := true }
def BackoffEndsUptoSaid : Prop := backoffEndsUptoRow.holds Try.pinned (OpenSpec.upto backoffEndsSpec)

/-- 'multihoplaw08.BackoffClear', WHERE WHAT IT READS IS OF BULK AT MOST 1048576: true; the input reads as it did. -/
def backoffClearUptoRow : OpenClaim := { program := "ytohhaibbbnobpaa", sum := "e84eeeb116041dfefbed92304887993083a0c0714c28234bfd41bf05bbdeab2c", func := "multihop/multihoplaw08.BackoffClear", spec := "backoffClear", apart := false, narrowed := true }
def BackoffClearUptoSaid : Prop := backoffClearUptoRow.holds Try.pinned (OpenSpec.upto backoffClearSpec)

/-- 'multihoplaw08.BackoffFails', WHERE WHAT IT READS IS OF BULK AT MOST 1048576: true; the input reads as it did. -/
def backoffFailsUptoRow : OpenClaim := { program := "ytohhaibbbnobpaa", sum := "e84eeeb116041dfefbed92304887993083a0c0714c28234bfd41bf05bbdeab2c", func := "multihop/multihoplaw08.BackoffFails", spec := "backoffFails", apart := false, narrowed := true }
def BackoffFailsUptoSaid : Prop := backoffFailsUptoRow.holds Try.pinned (OpenSpec.upto backoffFailsSpec)

/-- 'multihoplaw08.BackoffQuiet', WHERE WHAT IT READS IS OF BULK AT MOST 1048576: true; the input reads as it did. -/
def backoffQuietUptoRow : OpenClaim := { program := "ytohhaibbbnobpaa", sum := "e84eeeb116041dfefbed92304887993083a0c0714c28234bfd41bf05bbdeab2c", func := "multihop/multihoplaw08.BackoffQuiet", spec := "backoffQuiet", apart := false, narrowed := true }
def BackoffQuietUptoSaid : Prop := backoffQuietUptoRow.holds Try.pinned (OpenSpec.upto backoffQuietSpec)

end Rows
end Go.Proofs.Ytohhaibbbnobpaa
