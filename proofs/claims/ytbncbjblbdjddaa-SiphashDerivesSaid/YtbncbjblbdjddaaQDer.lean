/-
  siphash.Derive and the reference's Derive are one.
-/
import Derived.Test.YtbncbjblbdjddaaQAp
import Derived.Test.YtbncbjblbdjddaaQSip
namespace Go.Proofs.Ytbncbjblbdjddaa
open Go.RowKit

theorem beB_0 (n : Nat) : beB 0 n = List.replicate n 0 := by
  apply List.ext_getElem?
  intro i
  rcases Nat.lt_or_ge i n with hi | hi
  · rw [beB_get hi, List.getElem?_replicate, if_pos hi]; simp
  · rw [List.getElem?_eq_none (by rw [beB_len]; omega), List.getElem?_eq_none (by simpa using hi)]
noncomputable def derData (lab : List UInt8) (n : Int) (i : Int) : List Int := i8L lab ++ [0] ++ beB n 8 ++ [i]
noncomputable def deriveS (k : List Int) (lab : List UInt8) (n : Int) : List Int := leB (sumS k (derData lab n 0)) 8 ++ leB (sumS k (derData lab n 1)) 8
theorem deriveS_len (k : List Int) (lab : List UInt8) (n : Int) : (deriveS k lab n).length = 16 := by simp [deriveS, leB_len]
theorem deriveS_ok (k : List Int) (lab : List UInt8) (n : Int) : okB (deriveS k lab n) := (leB_ok _ _).append (leB_ok _ _)
theorem derData_ok (lab : List UInt8) (n : Int) {i : Int} (h : 0 ≤ i ∧ i ≤ 255) : okB (derData lab n i) := (((i8L_ok lab).append (okB_one (by omega))).append (beB_ok n 8)).append (okB_one h)
theorem derData_len (lab : List UInt8) (n i : Int) : (derData lab n i).length = lab.length + 10 := by simp [derData, i8L_length, beB_len]
theorem setA_mid {P : List Int} {v : Int} {m n : Nat} (h : P.length + (m + 1) = n) : setA n (P ++ List.replicate (m + 1) 0) P.length v = P ++ [v] ++ List.replicate m 0 := by
  rw [setA_set (by simp; omega), List.replicate_succ, set_mid _ _ _ _ rfl]
  simp
theorem der_prog_inner (c : Nat) (hc : c ≤ 1) (P q : List Int) (hP : P.length = 8 * c) (m : Nat) (hm : 8 * c + 8 + m = 16) (v : Int) : loopO (F_siphash_Derive_l2 ((c : Int), q) v) (0, P ++ List.replicate (8 + m) 0) = some (P ++ leB v 8 ++ List.replicate m 0) := by
  have hl := loop_run (step := F_siphash_Derive_l2 ((c : Int), q) v) (S := fun j => ((j : Int), P ++ (leB v 8).take j ++ List.replicate (8 - j + m) 0)) 8 (r := P ++ leB v 8 ++ List.replicate m 0) (fun j hj => by
    unfold F_siphash_Derive_l2
    dsimp only
    have w1 : IntKind.wrap .i64 (8 * (j : Int)) = ((8 * j : Nat) : Int) := by rw [wi (by omega) (by omega)]; omega
    have w2 : IntKind.wrap .i64 (8 * (c : Int)) = ((8 * c : Nat) : Int) := by rw [wi (by omega) (by omega)]; omega
    have w3 : IntKind.wrap .i64 (((8 * c : Nat) : Int) + (j : Int)) = ((8 * c + j : Nat) : Int) := by rw [wi (by omega) (by omega)]; omega
    rw [decT (show (j : Int) < 8 by omega), w1, w2, w3, decT (show (0 : Int) ≤ ((8 * j : Nat) : Int) by omega), decT (show (0 : Int) ≤ ((8 * c + j : Nat) : Int) ∧ ((8 * c + j : Nat) : Int) < (16 : Int) by omega)]
    simp only [cond_true, Int.toNat_natCast]
    rw [byte_eq (by omega) (by omega), Int.toNat_natCast, wk j (by omega)]
    congr 3
    have hl8 : (P ++ (leB v 8).take j).length = 8 * c + j := by simp only [List.length_append, List.length_take, leB_len]; omega
    rw [show 8 - j + m = (8 - (j + 1) + m) + 1 by omega, ← hl8, setA_mid (by rw [hl8]; omega), take_snoc (leB_get hj)]
    simp) (by
    unfold F_siphash_Derive_l2
    dsimp only
    rw [decF (show ¬ ((8 : Nat) : Int) < 8 by omega)]
    simp only [cond_false]
    rw [List.take_of_length_le (by rw [leB_len]; exact Nat.le_refl _), Nat.sub_self, Nat.zero_add])
  simp only [Int.natCast_zero, List.take_zero, List.append_nil, Nat.sub_zero] at hl
  exact hl
theorem der_ref_inner (c : Nat) (hc : c ≤ 1) (P q : List Int) (hP : P.length = 8 * c) (m : Nat) (hm : 8 * c + 8 + m = 16) (v : Int) : loopO (F_ref03_Derive_l2 ((c : Int), q) v) (0, P ++ List.replicate (8 + m) 0) = some (P ++ leB v 8 ++ List.replicate m 0) := by
  have hl := loop_run (step := F_ref03_Derive_l2 ((c : Int), q) v) (S := fun j => ((j : Int), P ++ (leB v 8).take j ++ List.replicate (8 - j + m) 0)) 8 (r := P ++ leB v 8 ++ List.replicate m 0) (fun j hj => by
    unfold F_ref03_Derive_l2
    dsimp only
    have w0 : IntKind.wrap .u64 (j : Int) = (j : Int) := wu (by omega) (by omega)
    have w1 : IntKind.wrap .u64 (8 * (j : Int)) = ((8 * j : Nat) : Int) := by rw [wu (by omega) (by omega)]; omega
    have w2 : IntKind.wrap .i64 (8 * (c : Int)) = ((8 * c : Nat) : Int) := by rw [wi (by omega) (by omega)]; omega
    have w3 : IntKind.wrap .i64 (((8 * c : Nat) : Int) + (j : Int)) = ((8 * c + j : Nat) : Int) := by rw [wi (by omega) (by omega)]; omega
    rw [decT (show (j : Int) < 8 by omega), w0, w1, w2, w3, decT (show (0 : Int) ≤ ((8 * j : Nat) : Int) by omega), decT (show (0 : Int) ≤ ((8 * c + j : Nat) : Int) ∧ ((8 * c + j : Nat) : Int) < (16 : Int) by omega)]
    simp only [cond_true, Int.toNat_natCast]
    rw [byte_eq (by omega) (by omega), Int.toNat_natCast, wk j (by omega)]
    congr 3
    have hl8 : (P ++ (leB v 8).take j).length = 8 * c + j := by simp only [List.length_append, List.length_take, leB_len]; omega
    rw [show 8 - j + m = (8 - (j + 1) + m) + 1 by omega, ← hl8, setA_mid (by rw [hl8]; omega), take_snoc (leB_get hj)]
    simp) (by
    unfold F_ref03_Derive_l2
    dsimp only
    rw [decF (show ¬ ((8 : Nat) : Int) < 8 by omega)]
    simp only [cond_false]
    rw [List.take_of_length_le (by rw [leB_len]; exact Nat.le_refl _), Nat.sub_self, Nat.zero_add])
  simp only [Int.natCast_zero, List.take_zero, List.append_nil, Nat.sub_zero] at hl
  exact hl
theorem beB_1 {v : Int} (h : 0 ≤ v) (h2 : v ≤ 255) : beB v 1 = [v] := by
  simp [beB]; omega
theorem prog_derive {k : List Int} (hk : k.length = 16) (ok : okB k) (lab : List UInt8) (hlab : lab.length ≤ 140737488351232) (n : Int) : F_siphash_Derive k lab n = some (deriveS k lab n) := by
  unfold F_siphash_Derive
  rw [decT (show lab.length ≤ maxLen by unfold maxLen; omega)]
  simp only [cond_true]
  have a1 := octets_append (i8L lab) 0 1 (by omega) (by rw [i8L_length]; omega)
  rw [show ((1 : Nat) : Int) = 1 from rfl] at a1
  rw [a1, Option.bind_some, beB_1 (by omega) (by omega)]
  have a2 := octets_append (i8L lab ++ [0]) n 8 (by omega) (by simp [i8L_length]; omega)
  rw [show ((8 : Nat) : Int) = 8 from rfl] at a2
  rw [a2, Option.bind_some]
  have step : ∀ (c : Nat) (_ : c ≤ 1) (P : List Int) (_ : P.length = 8 * c) (m : Nat) (_ : 8 * c + 8 + m = 16), F_siphash_Derive_l1 (i8L lab ++ [0] ++ beB n 8) k ((c : Int), P ++ List.replicate (8 + m) 0) = some (.inl (((c + 1 : Nat) : Int), P ++ leB (sumS k (derData lab n c)) 8 ++ List.replicate m 0)) := by
    intro c hc P hP m hm
    unfold F_siphash_Derive_l1
    dsimp only
    rw [decT (show (c : Int) < 2 by omega), wu (by omega) (by omega)]
    have a3 := octets_append (i8L lab ++ [0] ++ beB n 8) c 1 (by omega) (by simp [i8L_length, beB_len]; omega)
    rw [show ((1 : Nat) : Int) = 1 from rfl, beB_1 (by omega) (by omega)] at a3
    simp only [cond_true]
    rw [a3, Option.bind_some, show i8L lab ++ [0] ++ beB n 8 ++ [(c : Int)] = derData lab n c from rfl, prog_sum hk ok (derData_ok lab n (i := (c : Int)) (by omega)) (by rw [derData_len]; omega), Option.bind_some]
    rw [der_prog_inner c hc P _ hP m hm, Option.bind_some, wk c (by omega)]
  have s0 := step 0 (by omega) [] rfl 8 (by omega)
  have s1 := step 1 (by omega) (leB (sumS k (derData lab n 0)) 8) (by rw [leB_len]) 0 (by omega)
  have h0 : loopO (F_siphash_Derive_l1 (i8L lab ++ [0] ++ beB n 8) k) (0, [0, 0, 0, 0, 0, 0, 0, 0, 0, 0, 0, 0, 0, 0, 0, 0]) = some (deriveS k lab n) := by
    rw [loop_next (s' := (((0 + 1 : Nat) : Int), leB (sumS k (derData lab n 0)) 8 ++ List.replicate 8 0)) (by rw [show ([0, 0, 0, 0, 0, 0, 0, 0, 0, 0, 0, 0, 0, 0, 0, 0] : List Int) = [] ++ List.replicate (8 + 8) 0 from rfl]; exact s0), loop_next s1, loop_done]
    unfold F_siphash_Derive_l1
    dsimp only
    rw [decF (by omega)]
    simp [deriveS]
  rw [h0]
  rfl
theorem ref_derive {k : List Int} (hk : k.length = 16) (ok : okB k) (lab : List UInt8) (hlab : lab.length ≤ 140737488351232) (n : Int) : F_ref03_Derive k lab n = some (deriveS k lab n) := by
  unfold F_ref03_Derive
  have step : ∀ (c : Nat) (_ : c ≤ 1) (P : List Int) (_ : P.length = 8 * c) (m : Nat) (_ : 8 * c + 8 + m = 16), F_ref03_Derive_l1 lab n k ((c : Int), P ++ List.replicate (8 + m) 0) = some (.inl (((c + 1 : Nat) : Int), P ++ leB (sumS k (derData lab n c)) 8 ++ List.replicate m 0)) := by
    intro c hc P hP m hm
    unfold F_ref03_Derive_l1
    dsimp only
    rw [decT (show (c : Int) < 2 by omega), decT (show lab.length ≤ maxLen by unfold maxLen; omega)]
    simp only [cond_true, Cut.app]
    have hlen := i8L_length lab
    rw [appO_some (by simp [hlen]; omega) (by simp [hlen]; omega), Option.bind_some]
    have a2 := ref01_append (i8L lab ++ [0]) n 8 (by omega) (by simp [i8L_length]; omega)
    rw [show ((8 : Nat) : Int) = 8 from rfl] at a2
    rw [a2, Option.bind_some, appO_some (by simp [hlen, beB_len]; omega) (by simp [hlen, beB_len]; omega), Option.bind_some, wu8 (by omega) (by omega)]
    rw [show i8L lab ++ [0] ++ beB n 8 ++ [(c : Int)] = derData lab n c from rfl, ref_sum hk ok (derData_ok lab n (i := (c : Int)) (by omega)) (by rw [derData_len]; omega), Option.bind_some]
    rw [der_ref_inner c hc P _ hP m hm, Option.bind_some, wk c (by omega)]
  have s0 := step 0 (by omega) [] rfl 8 (by omega)
  have s1 := step 1 (by omega) (leB (sumS k (derData lab n 0)) 8) (by rw [leB_len]) 0 (by omega)
  have h0 : loopO (F_ref03_Derive_l1 lab n k) (0, [0, 0, 0, 0, 0, 0, 0, 0, 0, 0, 0, 0, 0, 0, 0, 0]) = some (deriveS k lab n) := by
    rw [loop_next (s' := (((0 + 1 : Nat) : Int), leB (sumS k (derData lab n 0)) 8 ++ List.replicate 8 0)) (by rw [show ([0, 0, 0, 0, 0, 0, 0, 0, 0, 0, 0, 0, 0, 0, 0, 0] : List Int) = [] ++ List.replicate (8 + 8) 0 from rfl]; exact s0), loop_next s1, loop_done]
    unfold F_ref03_Derive_l1
    dsimp only
    rw [decF (by omega)]
    simp [deriveS]
  rw [h0]
  rfl
end Go.Proofs.Ytbncbjblbdjddaa
