/-
  The tape's bools.
-/
import Derived.Test.YtohfnlkjdjmipaaQT
namespace Go.Proofs.Ytohfnlkjdjmipaa
open Go.RowKit

theorem bool_spec {t : S_multihopmade_Tape} (h : TapeOk t) (n : Int) (h1 : 1 ≤ n) (h2 : n ≤ 4611686018427387904) : ∃ v t', F_made_Tape_Bool t n = some (v, t') ∧ TapeOk t' := by
  unfold F_made_Tape_Bool
  obtain ⟨v, t', e, _, _, k⟩ := next_spec h n h1 h2
  rw [e]
  exact ⟨_, _, rfl, k⟩
end Go.Proofs.Ytohfnlkjdjmipaa
