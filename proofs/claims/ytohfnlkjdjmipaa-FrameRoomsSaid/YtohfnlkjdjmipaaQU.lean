/-
  octets.Uint: a number read from bytes, the greatest first.
-/
import Derived.Test.YtohfnlkjdjmipaaCe
import Derived.Test.YtohfnlkjdjmipaaQ1
namespace Go.Proofs.Ytohfnlkjdjmipaa
open Go.RowKit

theorem ior_comm (x y : Int) : ior .u64 x y = ior .u64 y x := by unfold ior; rw [BitVec.or_comm]
theorem be_step {v c : Int} (h0 : 0 ≤ v) (h1 : v < 72057594037927936) (c0 : 0 ≤ c) (c1 : c ≤ 255) : ior .u64 (ishl .u64 v 8) (IntKind.wrap .u64 c) = v * 256 + c := by
  have e : (2 : Int) ^ (8 : Int).toNat = 2 ^ 8 := rfl
  have e2 : (256 : Int) = 2 ^ 8 := rfl
  rw [ishl_eq (by omega) (by omega), wu c0 (by omega), e, Int.emod_eq_of_lt (Int.mul_nonneg h0 (by decide)) (by rw [← e2]; omega), ior_comm, ior_add 8 c0 (by omega) h0 (by rw [← e2]; omega)]
  omega
theorem be_fold (l : List Int) (h : okB l) (h8 : l.length ≤ 8) (k : Nat) (hk : k < l.length) : ior .u64 (ishl .u64 (beN (l.take k)) 8) (IntKind.wrap .u64 l[k]) = beN (l.take (k + 1)) := by
  have hb := beN_bd (h.take k)
  have hl : (l.take k).length = k := by rw [List.length_take]; omega
  have hp : (256 : Int) ^ k ≤ 72057594037927936 := by
    have : k ≤ 7 := by omega
    rcases k with _ | _ | _ | _ | _ | _ | _ | _ | k
    all_goals first | decide | omega
  rw [hl] at hb
  have hx := h.get hk
  rw [be_step hb.1 (by omega) hx.1 hx.2, take_snoc (List.getElem?_eq_getElem hk), beN_snoc]
theorem beN_beB (v : Int) (n : Nat) : beN (beB v n) = v % 256 ^ n := by
  induction n generalizing v with
  | zero => simp [beB, beN, Int.emod_one]
  | succ n ih =>
    have e : beB v (n + 1) = beB (v / 256) n ++ [v % 256] := by
      apply List.ext_getElem?
      intro i
      rcases Nat.lt_trichotomy i n with hi | hi | hi
      · rw [beB_get (by omega), List.getElem?_append_left (by rw [beB_len]; exact hi), beB_get hi]
        congr 2
        rw [show n + 1 - 1 - i = (n - 1 - i) + 1 by omega, Nat.mul_add, Int.pow_add]
        rw [Int.mul_comm, ← Int.ediv_ediv_of_nonneg (by decide)]
        rfl
      · subst hi
        rw [beB_get (by omega), List.getElem?_append_right (by rw [beB_len]; exact Nat.le_refl _), beB_len]
        simp
      · rw [List.getElem?_eq_none (by rw [beB_len]; omega), List.getElem?_eq_none (by simp [beB_len]; omega)]
    rw [e, beN_snoc, ih, Int.pow_succ]
    have h1 := Int.emod_add_mul_ediv v 256
    have h2 := Int.emod_add_mul_ediv (v / 256) (256 ^ n)
    have hp : (0 : Int) < 256 ^ n := Int.pow_pos (by decide)
    have h3 := Int.emod_nonneg (v / 256) (Int.ne_of_gt hp)
    have h4 := Int.emod_lt_of_pos (v / 256) hp
    have h5 := Int.emod_nonneg v (show (256 : Int) ≠ 0 by decide)
    have h6 := Int.emod_lt_of_pos v (show (0 : Int) < 256 by decide)
    have h7 : v = (v / 256 % 256 ^ n * 256 + v % 256) + (256 ^ n * 256) * (v / 256 / 256 ^ n) := by
      have : 256 * (256 ^ n * (v / 256 / 256 ^ n)) = (256 ^ n * 256) * (v / 256 / 256 ^ n) := by
        rw [← Int.mul_assoc, Int.mul_comm (256 : Int) (256 ^ n)]
      omega
    have h8 : (0 : Int) ≤ v / 256 % 256 ^ n * 256 + v % 256 := by omega
    have h9 : v / 256 % 256 ^ n * 256 + v % 256 < 256 ^ n * 256 := by omega
    conv => rhs; rw [h7]
    rw [Int.add_mul_emod_self_left, Int.emod_eq_of_lt h8 h9]
theorem uint_loop {l : List Int} (h : okB l) (h8 : l.length ≤ 8) : loopO (F_octets_Uint_l1 l) (0, 0) = some (beN l) := by
  have hl := loop_run (step := F_octets_Uint_l1 l) (S := fun k => (beN (l.take k), (k : Int))) l.length (r := beN l) (fun k hk => by
    unfold F_octets_Uint_l1
    dsimp only
    rw [decT (show (k : Int) < (l.length : Int) by omega), idx_lt hk]
    simp only [cond_true, Option.bind_some]
    rw [be_fold l h h8 k hk, wk k (by omega)]) (by
    unfold F_octets_Uint_l1
    dsimp only
    rw [decF (show ¬ (l.length : Int) < (l.length : Int) by omega)]
    simp only [cond_false, List.take_length])
  exact hl
/-- octets.Uint within the list -/
theorem uint_some {b : List Int} (h : okB b) (hb : b.length ≤ 1000000000000) (i n : Nat) (h1 : 1 ≤ n) (h8 : n ≤ 8) (hi : i + n ≤ b.length) : F_octets_Uint b i n = some (beN ((b.drop i).take n), true) := by
  unfold F_octets_Uint
  rw [decF (show ¬ (n : Int) < 1 by omega), decF (show ¬ (n : Int) > 8 by omega), decF (show ¬ (i : Int) < 0 by omega), wi (by omega) (by omega), decF (show ¬ (i : Int) > (b.length : Int) - (n : Int) by omega), wi (by omega) (by omega), subO_some (by omega) (by omega) (by omega)]
  simp only [cond_false, Option.bind_some]
  rw [show (b.take ((i : Int) + (n : Int)).toNat).drop (i : Int).toNat = (b.drop i).take n by rw [show ((i : Int) + (n : Int)).toNat = i + n by omega, Int.toNat_natCast, List.drop_take, Nat.add_sub_cancel_left]]
  rw [uint_loop ((h.drop i).take n) (by rw [List.length_take]; omega)]
  rfl
/-- octets.Uint behind the end -/
theorem uint_none {b : List Int} (hb : b.length ≤ 1000000000000) (i n : Nat) (h1 : 1 ≤ n) (h8 : n ≤ 8) (hi : b.length < i + n) : F_octets_Uint b i n = some (0, false) := by
  unfold F_octets_Uint
  rw [decF (show ¬ (n : Int) < 1 by omega), decF (show ¬ (n : Int) > 8 by omega), decF (show ¬ (i : Int) < 0 by omega), wi (by omega) (by omega), decT (show (i : Int) > (b.length : Int) - (n : Int) by omega)]
  rfl
end Go.Proofs.Ytohfnlkjdjmipaa
