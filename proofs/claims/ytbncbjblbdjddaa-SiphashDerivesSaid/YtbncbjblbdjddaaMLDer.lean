/-
  SiphashDerives: Derive returns what the chapter says, for all keys, labels and numbers.
-/
import Derived.Test.YtbncbjblbdjddaaLwSiphashDerives
import Derived.Test.YtbncbjblbdjddaaQDer
namespace Go.Proofs.Ytbncbjblbdjddaa
open Go.RowKit

theorem asc_spec (n : Nat) (hn : n ≤ 100) : F_law03_ascending n = some ((List.range n).map fun k => ((k : Nat) : Int)) := by
  unfold F_law03_ascending
  have hl := loop_run (step := F_law03_ascending_l1 n) (S := fun k => ((List.range k).map fun k => ((k : Nat) : Int), (k : Int))) n (r := (List.range n).map fun k => ((k : Nat) : Int)) (fun k hk => by
    unfold F_law03_ascending_l1
    dsimp only
    rw [decT (show (k : Int) < (n : Int) by omega), wu8 (by omega) (by omega), wk k (by omega)]
    simp only [cond_true, Cut.app]
    rw [appO_some (by simp; omega) (by simp; omega), Option.bind_some, List.range_succ, List.map_append]
    rfl) (by
    unfold F_law03_ascending_l1
    dsimp only
    rw [decF (show ¬ (n : Int) < (n : Int) by omega)]
    rfl)
  simp only [Int.natCast_zero, List.range_zero, List.map_nil] at hl
  rw [hl]
  rfl
theorem known_true : F_law03_known = some true := by
  unfold F_law03_known
  have h1 := asc_spec 16 (by omega)
  have h2 := asc_spec 15 (by omega)
  rw [show ((16 : Nat) : Int) = 16 from rfl] at h1
  rw [show ((15 : Nat) : Int) = 15 from rfl] at h2
  rw [h1, h2]
  simp only [Option.bind_some]
  rw [prog_sum (by decide +kernel) (by unfold okB; decide +kernel) (by unfold okB; decide +kernel) (by decide +kernel)]
  simp only [Option.bind_some]
  rw [show (sumS (cpA 16 [0, 0, 0, 0, 0, 0, 0, 0, 0, 0, 0, 0, 0, 0, 0, 0] (Cut.app .whole ((List.range 16).map fun k => ((k : Nat) : Int)))) ((List.range 15).map fun k => ((k : Nat) : Int)) == 11613035633349379557) = true by decide +kernel]
  simp only [cond_true]
  rw [prog_sum (by decide +kernel) (by unfold okB; decide +kernel) (by unfold okB; decide +kernel) (by decide +kernel)]
  simp only [Option.bind_some]
  rw [show (sumS (cpA 16 [0, 0, 0, 0, 0, 0, 0, 0, 0, 0, 0, 0, 0, 0, 0, 0] (Cut.app .whole ((List.range 16).map fun k => ((k : Nat) : Int)))) ([] : List Int) == 8246050544436514353) = true by decide +kernel]
theorem siphashDerives_holds : Rows.SiphashDerivesSaid := by
  refine siphashDerives_of fun key lab n hk hl hn => ?_
  unfold F_law03_SiphashDerives
  rw [known_true]
  simp only [Option.bind_some, cond_true]
  rw [prog_derive hk.1 (okB_wf hk.2) lab hl n, ref_derive hk.1 (okB_wf hk.2) lab hl n]
  simp only [Option.bind_some]
  rw [show arrEq 16 (deriveS key lab n) (deriveS key lab n) = true from arrEq_iff.2 fun _ _ => rfl]
#print axioms siphashDerives_holds
end Go.Proofs.Ytbncbjblbdjddaa
