/-
  The reference's Put: a list with the bytes of a number behind it.
-/
import Derived.Test.YtcjoflgnifafiaaCe
import Derived.Test.YtcjoflgnifafiaaQ1
namespace Go.Proofs.Ytcjoflgnifafiaa
open Go.RowKit

theorem put_n (v : Int) (n : Nat) (hn : n ≤ 8) : F_ref29_Put_N0 v n = some (beB v n) := by
  unfold F_ref29_Put_N0
  rw [wi (by omega) (by omega)]
  have hl := loop_run (step := F_ref29_Put_N0_l1 v) (S := fun k => ((beB v n).take k, (n : Int) - 1 - (k : Int))) n (r := beB v n) (fun k hk => by
    unfold F_ref29_Put_N0_l1
    dsimp only
    have w1 : IntKind.wrap .i64 (8 * ((n : Int) - 1 - (k : Int))) = ((8 * (n - 1 - k) : Nat) : Int) := by rw [wi (by omega) (by omega)]; omega
    have w2 : IntKind.wrap .u64 ((8 * (n - 1 - k) : Nat) : Int) = ((8 * (n - 1 - k) : Nat) : Int) := wu (by omega) (by omega)
    have w3 : IntKind.wrap .i64 ((n : Int) - 1 - (k : Int) - 1) = (n : Int) - 1 - ((k + 1 : Nat) : Int) := by rw [wi (by omega) (by omega)]; omega
    rw [decT (show (n : Int) - 1 - (k : Int) ≥ 0 by omega), w1, w2, w3, decT (show (0 : Int) ≤ ((8 * (n - 1 - k) : Nat) : Int) by omega)]
    simp only [cond_true, Cut.app]
    rw [appO_some (by simp only [List.length_take, beB_len, List.length_singleton]; omega) (by simp only [List.length_take, beB_len, List.length_singleton]; omega), Option.bind_some, byte_eq (by omega) (by omega), Int.toNat_natCast, take_snoc (beB_get hk)]) (by
    unfold F_ref29_Put_N0_l1
    dsimp only
    rw [decF (show ¬ (n : Int) - 1 - (n : Int) ≥ 0 by omega)]
    simp only [cond_false]
    rw [List.take_of_length_le (by rw [beB_len]; exact Nat.le_refl _)])
  simp only [Int.natCast_zero, List.take_zero, Int.sub_zero] at hl
  rw [hl]
  rfl
theorem put_g (a : List Int) (v : Int) (n : Nat) (hn : n ≤ 8) (ha : a.length ≤ 1000000000000) : F_ref29_Put_G0 a v n = some (a ++ beB v n) := by
  unfold F_ref29_Put_G0
  rw [wi (by omega) (by omega)]
  have hl := loop_run (step := F_ref29_Put_G0_l1 v) (S := fun k => (a ++ (beB v n).take k, (n : Int) - 1 - (k : Int))) n (r := a ++ beB v n) (fun k hk => by
    unfold F_ref29_Put_G0_l1
    dsimp only
    have w1 : IntKind.wrap .i64 (8 * ((n : Int) - 1 - (k : Int))) = ((8 * (n - 1 - k) : Nat) : Int) := by rw [wi (by omega) (by omega)]; omega
    have w2 : IntKind.wrap .u64 ((8 * (n - 1 - k) : Nat) : Int) = ((8 * (n - 1 - k) : Nat) : Int) := wu (by omega) (by omega)
    have w3 : IntKind.wrap .i64 ((n : Int) - 1 - (k : Int) - 1) = (n : Int) - 1 - ((k + 1 : Nat) : Int) := by rw [wi (by omega) (by omega)]; omega
    rw [decT (show (n : Int) - 1 - (k : Int) ≥ 0 by omega), w1, w2, w3, decT (show (0 : Int) ≤ ((8 * (n - 1 - k) : Nat) : Int) by omega)]
    simp only [cond_true, Cut.app]
    rw [appO_some (by simp only [List.length_append, List.length_take, beB_len, List.length_singleton]; omega) (by simp only [List.length_append, List.length_take, beB_len, List.length_singleton]; omega), Option.bind_some, byte_eq (by omega) (by omega), Int.toNat_natCast, take_snoc (beB_get hk), List.append_assoc]) (by
    unfold F_ref29_Put_G0_l1
    dsimp only
    rw [decF (show ¬ (n : Int) - 1 - (n : Int) ≥ 0 by omega)]
    simp only [cond_false]
    rw [List.take_of_length_le (by rw [beB_len]; exact Nat.le_refl _)])
  simp only [Int.natCast_zero, List.take_zero, List.append_nil, Int.sub_zero] at hl
  rw [hl]
  rfl
end Go.Proofs.Ytcjoflgnifafiaa
