/-
  made.Mod.
-/
import Derived.Test.YtohfnlkjdjmipaaQT
namespace Go.Proofs.Ytohfnlkjdjmipaa
open Go.RowKit
theorem mod_spec (x n : Int) (h1 : 1 ≤ n) (h2 : n ≤ 4611686018427387904) : ∃ v, F_made_Mod x n = some v ∧ 0 ≤ v ∧ v < n := by
  unfold F_made_Mod F_made_Mod_j1
  obtain ⟨r1, r2, r3⟩ := rem_spec x n h1 h2
  generalize Int.tmod x n = q at *
  rw [show decide (n ≠ 0) = true by simp; omega]
  by_cases hq : q < 0
  · rw [decT hq, wi (by omega) (by omega)]
    exact ⟨q + n, rfl, by omega, by omega⟩
  · rw [decF hq]
    exact ⟨q, rfl, by omega, by omega⟩
end Go.Proofs.Ytohfnlkjdjmipaa
