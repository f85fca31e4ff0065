/-
  The reference's Get: a number read from bytes, the greatest first.
-/
import Derived.Test.YtcjoflgnifafiaaQU
namespace Go.Proofs.Ytcjoflgnifafiaa
open Go.RowKit

theorem get_some {b : List Int} (h : okB b) (hb : b.length ≤ 1000000000000) (i n : Nat) (h8 : n ≤ 8) (hi : i + n ≤ b.length) : F_ref29_Get b i n = some (beN ((b.drop i).take n)) := by
  unfold F_ref29_Get
  have hlen : ((b.drop i).take n).length = n := by rw [List.length_take, List.length_drop]; omega
  have hl := loop_run (step := F_ref29_Get_l1 n b i) (S := fun k => (beN (((b.drop i).take n).take k), (k : Int))) n (r := beN ((b.drop i).take n)) (fun k hk => by
    unfold F_ref29_Get_l1
    dsimp only
    rw [decT (show (k : Int) < (n : Int) by omega), wi (by omega) (by omega), show (i : Int) + (k : Int) = ((i + k : Nat) : Int) by omega, idx_lt (by omega)]
    simp only [cond_true, Option.bind_some]
    have hg : b[i + k] = ((b.drop i).take n)[k]'(by omega) := by rw [List.getElem_take, List.getElem_drop]
    rw [hg, be_fold _ ((h.drop i).take n) (by omega) k (by omega), wk k (by omega)]) (by
    unfold F_ref29_Get_l1
    dsimp only
    rw [decF (show ¬ (n : Int) < (n : Int) by omega)]
    simp only [cond_false]
    rw [List.take_of_length_le (by omega)])
  have e0 : loopO (F_ref29_Get_l1 n b i) (0, 0) = some (beN ((b.drop i).take n)) := hl
  rw [e0]
  rfl
end Go.Proofs.Ytcjoflgnifafiaa
