/-
  siphash.Sum and the reference's Sum are one; Tag as bytes.
-/
import Derived.Test.YtbncbjblbdjddaaCe
import Derived.Test.YtbncbjblbdjddaaQ1
namespace Go.Proofs.Ytbncbjblbdjddaa
open Go.RowKit

/-! ### eight bytes as a number -/
theorem little_spec {l : List Int} (h : okB l) (h8 : l.length ≤ 8) : F_siphash_little l = some (leN l) := by
  unfold F_siphash_little
  have hl := loop_run (step := F_siphash_little_l1 l) (S := fun k => (leN (l.take k), (k : Int))) l.length (r := leN l) (fun k hk => by
    unfold F_siphash_little_l1
    dsimp only
    have w1 : IntKind.wrap .i64 (8 * (k : Int)) = ((8 * k : Nat) : Int) := by rw [wi (by omega) (by omega)]; omega
    have hx := h.get hk
    have hb := leN_bd (h.take k)
    rw [List.length_take, Nat.min_eq_left (by omega)] at hb
    have hb2 := leN_bd (h.take (k + 1))
    have ht : l.take (k + 1) = l.take k ++ [l[k]] := take_snoc (List.getElem?_eq_getElem hk)
    have hlk : (l.take (k + 1)).length = k + 1 := by rw [List.length_take]; omega
    have e256 : (256 : Int) ^ k = 2 ^ (8 * k) := by rw [Int.pow_mul]; rfl
    have hlt := pow256 (show k + 1 ≤ 8 by omega)
    rw [hlk] at hb2
    rw [ht, leN_append, List.length_take, Nat.min_eq_left (show k ≤ l.length by omega)] at hb2 ⊢
    simp only [leN, Int.mul_zero, Int.add_zero] at hb2 ⊢
    have hx64 : IntKind.wrap .u64 l[k] = l[k] := wu hx.1 (by omega)
    rw [decT (show (k : Int) < (l.length : Int) by omega), w1, decT (show (0 : Int) ≤ ((8 * k : Nat) : Int) by omega), idx_lt hk]
    simp only [cond_true, Option.bind_some]
    rw [wk k (by omega), hx64, ishl_eq (by omega) (by omega), Int.toNat_natCast]
    rw [e256] at hb hb2 ⊢
    have hpos : (0 : Int) ≤ l[k] * 2 ^ (8 * k) := Int.mul_nonneg hx.1 (Int.pow_nonneg (by omega))
    rw [Int.mul_comm (2 ^ (8 * k)) l[k]] at hb2 ⊢
    rw [Int.emod_eq_of_lt hpos (by omega), ior_add (8 * k) hb.1 hb.2 hx.1 (by omega)]) (by
    unfold F_siphash_little_l1
    dsimp only
    rw [decF (show ¬ (l.length : Int) < (l.length : Int) by omega)]
    simp only [cond_false, List.take_length])
  simp only [Int.natCast_zero, List.take_zero, leN] at hl
  rw [hl]
  rfl
theorem number_spec {l : List Int} (h : okB l) (h8 : l.length ≤ 8) : F_ref03_number l = some (leN l) := by
  unfold F_ref03_number
  rw [wi (by omega) (by omega)]
  have hl := loop_run (step := F_ref03_number_l1 l) (S := fun k => (leN (l.drop (l.length - k)), (l.length : Int) - 1 - (k : Int))) l.length (r := leN l) (fun k hk => by
    unfold F_ref03_number_l1
    dsimp only
    have hj : l.length - (k + 1) < l.length := by omega
    have hx := h.get hj
    have hd := List.drop_eq_getElem_cons hj
    rw [show l.length - (k + 1) + 1 = l.length - k by omega] at hd
    have hb := leN_lt64 (h.drop (l.length - (k + 1))) (by simp; omega)
    rw [hd] at hb ⊢
    simp only [leN] at hb ⊢
    have hb0 := leN_bd (h.drop (l.length - k))
    have w3 : IntKind.wrap .i64 ((l.length : Int) - 1 - (k : Int) - 1) = (l.length : Int) - 1 - ((k + 1 : Nat) : Int) := by rw [wi (by omega) (by omega)]; omega
    rw [decT (show (l.length : Int) - 1 - (k : Int) ≥ 0 by omega), w3, show (l.length : Int) - 1 - (k : Int) = ((l.length - (k + 1) : Nat) : Int) by omega, idx_lt hj]
    simp only [cond_true, Option.bind_some]
    rw [ishl_eq (by omega) (by omega), wu (x := l[l.length - (k + 1)]) hx.1 (by omega)]
    have e8 : (2 : Int) ^ ((8 : Int).toNat) = 256 := by decide
    rw [e8, Int.emod_eq_of_lt (by omega) (by omega), wu (by omega) (by omega), show leN (l.drop (l.length - k)) * 256 + l[l.length - (k + 1)] = l[l.length - (k + 1)] + 256 * leN (l.drop (l.length - k)) by omega]) (by
    unfold F_ref03_number_l1
    dsimp only
    rw [decF (show ¬ (l.length : Int) - 1 - (l.length : Int) ≥ 0 by omega)]
    simp only [cond_false, Nat.sub_self, List.drop_zero])
  simp only [Int.natCast_zero, Nat.sub_zero, List.drop_length, leN, Int.sub_zero] at hl
  rw [hl]
  rfl

/-! ### the rounds -/
def rotS (x : Int) (n m : Int) : Int := ior .u64 (ishl .u64 x n) (ishr .u64 x m)
theorem rotL (x : Int) : F_math_bits_RotateLeft64 x 13 = some (rotS x 13 51) ∧ F_math_bits_RotateLeft64 x 32 = some (rotS x 32 32) ∧ F_math_bits_RotateLeft64 x 16 = some (rotS x 16 48) ∧ F_math_bits_RotateLeft64 x 21 = some (rotS x 21 43) ∧ F_math_bits_RotateLeft64 x 17 = some (rotS x 17 47) := ⟨rfl, rfl, rfl, rfl, rfl⟩
theorem rotR (x : Int) : F_ref03_rot x 13 = some (rotS x 13 51) ∧ F_ref03_rot x 32 = some (rotS x 32 32) ∧ F_ref03_rot x 16 = some (rotS x 16 48) ∧ F_ref03_rot x 21 = some (rotS x 21 43) ∧ F_ref03_rot x 17 = some (rotS x 17 47) := ⟨rfl, rfl, rfl, rfl, rfl⟩
abbrev SS := S_multihopref03_state
noncomputable def roundS (s : SS) : SS := (F_ref03_state_round s).getD s
theorem round_spec (s : SS) : F_ref03_state_round s = some (roundS s) := by
  unfold roundS
  unfold F_ref03_state_round
  simp only [rotR, Option.bind_some, Option.getD_some]
def toL (s : SS) : List Int := [s.a, s.b, s.c, s.d]
theorem rounds_step (n : Int) (i : Int) (s : SS) : F_siphash_state_rounds_l1 n (i, toL s) = if i < n then some (.inl (IntKind.wrap .i64 (i + 1), toL (roundS s))) else some (.inr (toL s)) := by
  have h := round_spec s
  unfold F_ref03_state_round at h
  simp only [rotR, Option.bind_some, Option.some.injEq] at h
  rw [← h]
  unfold F_siphash_state_rounds_l1 toL
  simp only [rotL, Option.bind_some, List.getD_cons_zero, List.getD_cons_succ]
  by_cases hi : i < n
  · rw [decT hi, if_pos hi]; rfl
  · rw [decF hi, if_neg hi]; rfl
noncomputable def roundsS (s : SS) : Nat → SS
  | 0 => s
  | n + 1 => roundS (roundsS s n)
theorem rounds_spec (s : SS) (n : Nat) (hn : n ≤ 100) : F_siphash_state_rounds (toL s) n = some (toL (roundsS s n)) := by
  unfold F_siphash_state_rounds
  have hl := loop_run (step := F_siphash_state_rounds_l1 n) (S := fun k => ((k : Int), toL (roundsS s k))) n (r := toL (roundsS s n)) (fun k hk => by
    rw [rounds_step, if_pos (by omega), wk k (by omega)]; rfl) (by rw [rounds_step, if_neg (by omega)])
  simp only [Int.natCast_zero, roundsS] at hl
  rw [hl]
  rfl
noncomputable def mixS (s : SS) (m : Int) : SS := let t := roundS (roundS ⟨s.a, s.b, s.c, ixor .u64 s.d m⟩); ⟨ixor .u64 t.a m, t.b, t.c, t.d⟩
theorem mix_spec (s : SS) (m : Int) : F_siphash_state_mix (toL s) m = some (toL (mixS s m)) := by
  unfold F_siphash_state_mix
  have h := rounds_spec ⟨s.a, s.b, s.c, ixor .u64 s.d m⟩ 2 (by omega)
  simp only [toL, List.getD_cons_zero, List.getD_cons_succ] at h ⊢
  rw [show ((2 : Nat) : Int) = 2 from rfl] at h
  rw [h]
  rfl
theorem word_spec (s : SS) (m : Int) : F_ref03_state_word s m = some (mixS s m) := by
  unfold F_ref03_state_word
  simp only [round_spec, Option.bind_some]
  rfl

/-! ### the sum -/
def wordAt (b : List Int) (k : Nat) : List Int := (b.drop (8 * k)).take 8
noncomputable def wordsS (s : SS) (b : List Int) : Nat → SS
  | 0 => s
  | k + 1 => mixS (wordsS s b k) (leN (wordAt b k))
noncomputable def sumS (k b : List Int) : Int :=
  let k0 := leN (k.take 8); let k1 := leN (k.drop 8)
  let s := wordsS ⟨ixor .u64 k0 8317987319222330741, ixor .u64 k1 7237128888997146477, ixor .u64 k0 7816392313619706465, ixor .u64 k1 8387220255154660723⟩ b (b.length / 8)
  let t := mixS s (leN (b.drop (8 * (b.length / 8))) + (b.length % 256 : Nat) * 72057594037927936)
  let u := roundsS ⟨t.a, t.b, ixor .u64 t.c 255, t.d⟩ 4
  ixor .u64 (ixor .u64 (ixor .u64 u.a u.b) u.c) u.d
theorem key_lo {k : List Int} (h : k.length = 16) : arrL 8 k = k.take 8 := by
  apply List.ext_getElem?
  intro i
  unfold arrL
  rw [List.getElem?_take]
  rcases Nat.lt_or_ge i 8 with hi | hi
  · rw [if_pos hi, List.getElem?_map, List.getElem?_range hi, List.getElem?_eq_getElem (by omega)]
    simp [List.getD_eq_getElem?_getD, List.getElem?_eq_getElem (show i < k.length by omega)]
  · rw [if_neg (by omega), List.getElem?_eq_none (by simpa using hi)]
theorem key_hi {k : List Int} (h : k.length = 16) : ([k.getD 8 0, k.getD 9 0, k.getD 10 0, k.getD 11 0, k.getD 12 0, k.getD 13 0, k.getD 14 0, k.getD 15 0] : List Int) = k.drop 8 := by
  apply List.ext_getElem (by simp; omega)
  intro i h1 h2
  simp only [List.length_cons, List.length_nil] at h1
  rw [List.getElem_drop]
  have e : ∀ j, (hj : j < k.length) → k.getD j 0 = k[j] := fun j hj => getD_get hj
  rcases i with _ | _ | _ | _ | _ | _ | _ | _ | i
  all_goals first | omega | (simp only [List.getElem_cons_zero, List.getElem_cons_succ]; rw [e _ (by omega)])
theorem wordAt_ok {b : List Int} (h : okB b) (k : Nat) : okB (wordAt b k) := (h.drop _).take _
theorem wordAt_len (b : List Int) (k : Nat) : (wordAt b k).length ≤ 8 := by simp [wordAt]; omega
theorem last_bd {b : List Int} (h : okB b) : 0 ≤ leN (b.drop (8 * (b.length / 8))) ∧ leN (b.drop (8 * (b.length / 8))) < 72057594037927936 := by
  have h1 := leN_bd (h.drop (8 * (b.length / 8)))
  have h2 : (b.drop (8 * (b.length / 8))).length ≤ 7 := by simp; omega
  have h3 : (256 : Int) ^ (b.drop (8 * (b.length / 8))).length ≤ 72057594037927936 := by
    generalize (b.drop (8 * (b.length / 8))).length = m at h2
    rcases m with _ | _ | _ | _ | _ | _ | _ | _ | m
    all_goals first | decide | omega
  omega
theorem iquo8 {n : Nat} (h : n ≤ 9000000000000000000) : iquo .i64 (n : Int) 8 = ((n / 8 : Nat) : Int) := by
  unfold iquo
  rw [Int.tdiv_eq_ediv_of_nonneg (by omega), wi (by omega) (by omega)]
  omega
theorem prog_sum {k b : List Int} (hk : k.length = 16) (ok : okB k) (ob : okB b) (hb : b.length ≤ 4000000000000000000) : F_siphash_Sum k b = some (sumS k b) := by
  unfold F_siphash_Sum
  rw [key_lo hk, key_hi hk, little_spec (ok.take 8) (by simp; omega), Option.bind_some, little_spec (ok.drop 8) (by simp; omega), Option.bind_some]
  generalize hs0 : (S_multihopref03_state.mk (ixor .u64 (leN (k.take 8)) 8317987319222330741) (ixor .u64 (leN (k.drop 8)) 7237128888997146477) (ixor .u64 (leN (k.take 8)) 7816392313619706465) (ixor .u64 (leN (k.drop 8)) 8387220255154660723)) = s0
  have hL : ([ixor .u64 (leN (k.take 8)) 8317987319222330741, ixor .u64 (leN (k.drop 8)) 7237128888997146477, ixor .u64 (leN (k.take 8)) 7816392313619706465, ixor .u64 (leN (k.drop 8)) 8387220255154660723] : List Int) = toL s0 := by rw [← hs0]; rfl
  rw [hL]
  have hl := loop_run (step := F_siphash_Sum_l1 b) (S := fun j => ((j : Int), toL (wordsS s0 b j))) (b.length / 8) (r := toL (wordsS s0 b (b.length / 8))) (fun j hj => by
    unfold F_siphash_Sum_l1
    dsimp only
    have w1 : IntKind.wrap .i64 (8 * (j : Int)) = ((8 * j : Nat) : Int) := by rw [wi (by omega) (by omega)]; omega
    have w2 : IntKind.wrap .i64 (((8 * j : Nat) : Int) + 8) = ((8 * j + 8 : Nat) : Int) := by rw [wi (by omega) (by omega)]; omega
    rw [iquo8 (by omega), decT (show (j : Int) < ((b.length / 8 : Nat) : Int) by omega), w1, w2, subO_some (by omega) (by omega) (by omega)]
    simp only [cond_true, Option.bind_some, Int.toNat_natCast]
    rw [show (b.take (8 * j + 8)).drop (8 * j) = wordAt b j by rw [wordAt, List.drop_take]; congr 1; omega, little_spec (wordAt_ok ob j) (wordAt_len b j), Option.bind_some, mix_spec, Option.bind_some, wk j (by omega)]
    rfl) (by
    unfold F_siphash_Sum_l1
    dsimp only
    rw [iquo8 (by omega), decF (show ¬ ((b.length / 8 : Nat) : Int) < ((b.length / 8 : Nat) : Int) by omega)]
    simp only [cond_false])
  simp only [Int.natCast_zero, wordsS] at hl
  rw [hl, Option.bind_some, iquo8 (by omega), wi (by omega) (by omega), show (8 : Int) * ((b.length / 8 : Nat) : Int) = ((8 * (b.length / 8) : Nat) : Int) by omega, subO_some (by omega) (by omega) (by omega), Option.bind_some]
  simp only [Int.toNat_natCast, List.take_length]
  have hbd := last_bd ob
  rw [little_spec (ob.drop _) (by simp; omega), Option.bind_some]
  have hor : ior .u64 (leN (b.drop (8 * (b.length / 8)))) (ishl .u64 (IntKind.wrap .u64 (b.length : Int)) 56) = leN (b.drop (8 * (b.length / 8))) + (b.length % 256 : Nat) * 72057594037927936 := by
    rw [ishl_eq (by omega) (by omega), wu (by omega) (by omega)]
    have e : (2 : Int) ^ (56 : Int).toNat = 72057594037927936 := by decide
    have e2 : (72057594037927936 : Int) = 2 ^ 56 := by decide
    rw [e, show (b.length : Int) * 72057594037927936 % 18446744073709551616 = ((b.length % 256 : Nat) : Int) * 72057594037927936 by omega, e2]
    exact ior_add 56 hbd.1 (by omega) (by omega) (by rw [← e2]; omega)
  rw [hor, mix_spec, Option.bind_some]
  have hr := rounds_spec (S_multihopref03_state.mk (mixS (wordsS s0 b (b.length / 8)) (leN (b.drop (8 * (b.length / 8))) + (b.length % 256 : Nat) * 72057594037927936)).a (mixS (wordsS s0 b (b.length / 8)) (leN (b.drop (8 * (b.length / 8))) + (b.length % 256 : Nat) * 72057594037927936)).b (ixor .u64 (mixS (wordsS s0 b (b.length / 8)) (leN (b.drop (8 * (b.length / 8))) + (b.length % 256 : Nat) * 72057594037927936)).c 255) (mixS (wordsS s0 b (b.length / 8)) (leN (b.drop (8 * (b.length / 8))) + (b.length % 256 : Nat) * 72057594037927936)).d) 4 (by omega)
  simp only [toL, List.getD_cons_zero, List.getD_cons_succ] at hr ⊢
  rw [show ((4 : Nat) : Int) = 4 from rfl] at hr
  rw [hr, Option.bind_some]
  simp only [List.getD_cons_zero, List.getD_cons_succ, sumS, hs0]
theorem ref_sum {k b : List Int} (hk : k.length = 16) (ok : okB k) (ob : okB b) (hb : b.length ≤ 4000000000000000000) : F_ref03_Sum k b = some (sumS k b) := by
  unfold F_ref03_Sum
  rw [key_lo hk, key_hi hk, number_spec (ok.take 8) (by simp; omega), Option.bind_some, number_spec (ok.drop 8) (by simp; omega), Option.bind_some]
  generalize hs0 : (S_multihopref03_state.mk (ixor .u64 (leN (k.take 8)) 8317987319222330741) (ixor .u64 (leN (k.drop 8)) 7237128888997146477) (ixor .u64 (leN (k.take 8)) 7816392313619706465) (ixor .u64 (leN (k.drop 8)) 8387220255154660723)) = s0
  have hl := loop_run (step := F_ref03_Sum_l1 b) (S := fun j => (((8 * j : Nat) : Int), wordsS s0 b j)) (b.length / 8) (r := (((8 * (b.length / 8) : Nat) : Int), wordsS s0 b (b.length / 8))) (fun j hj => by
    unfold F_ref03_Sum_l1
    dsimp only
    have w2 : IntKind.wrap .i64 (((8 * j : Nat) : Int) + 8) = ((8 * j + 8 : Nat) : Int) := by rw [wi (by omega) (by omega)]; omega
    rw [w2, decT (show ((8 * j + 8 : Nat) : Int) ≤ (b.length : Int) by omega), subO_some (by omega) (by omega) (by omega)]
    simp only [cond_true, Option.bind_some, Int.toNat_natCast]
    rw [show (b.take (8 * j + 8)).drop (8 * j) = wordAt b j by rw [wordAt, List.drop_take]; congr 1; omega, number_spec (wordAt_ok ob j) (wordAt_len b j), Option.bind_some, word_spec, Option.bind_some]
    rfl) (by
    unfold F_ref03_Sum_l1
    dsimp only
    rw [wi (by omega) (by omega), decF (show ¬ ((8 * (b.length / 8) : Nat) : Int) + 8 ≤ (b.length : Int) by omega)]
    simp only [cond_false])
  simp only [Nat.mul_zero, Int.natCast_zero, wordsS] at hl
  rw [hl, Option.bind_some]
  dsimp only
  rw [subO_some (by omega) (by omega) (by omega), Option.bind_some]
  simp only [Int.toNat_natCast, List.take_length]
  have hbd := last_bd ob
  rw [number_spec (ob.drop _) (by simp; omega), Option.bind_some]
  have hor : IntKind.wrap .u64 (leN (b.drop (8 * (b.length / 8))) + ishl .u64 (IntKind.wrap .u64 (Int.tmod (b.length : Int) 256)) 56) = leN (b.drop (8 * (b.length / 8))) + (b.length % 256 : Nat) * 72057594037927936 := by
    have et : Int.tmod (b.length : Int) 256 = ((b.length % 256 : Nat) : Int) := by rw [Int.tmod_eq_emod_of_nonneg (by omega)]; omega
    rw [et, ishl_eq (by omega) (by omega), wu (x := ((b.length % 256 : Nat) : Int)) (by omega) (by omega)]
    have e : (2 : Int) ^ (56 : Int).toNat = 72057594037927936 := by decide
    rw [e, Int.emod_eq_of_lt (by omega) (by omega), wu (by omega) (by omega)]
  rw [hor, word_spec, Option.bind_some]
  simp only [round_spec, Option.bind_some, sumS, hs0, roundsS]

/-! ### a tag -/
theorem ixor_bd (x y : Int) : 0 ≤ ixor .u64 x y ∧ ixor .u64 x y < 18446744073709551616 := by unfold ixor; rw [wrap64]; omega
theorem sumS_bd (k b : List Int) : 0 ≤ sumS k b ∧ sumS k b < 18446744073709551616 := by unfold sumS; exact ixor_bd _ _
theorem prog_tag {k b : List Int} (hk : k.length = 16) (ok : okB k) (ob : okB b) (hb : b.length ≤ 4000000000000000000) (n : Nat) (h1 : 1 ≤ n) (h8 : n ≤ 8) : F_siphash_Tag k b n = some (leB (sumS k b) n, true) := by
  unfold F_siphash_Tag
  rw [decF (show ¬ (n : Int) < 1 by omega), decF (show ¬ (n : Int) > 8 by omega), prog_sum hk ok ob hb]
  simp only [cond_false, Option.bind_some]
  have e2 : mkO 1 (n : Int) (n : Int) = some n := by
    unfold mkO
    rw [if_pos ⟨by omega, by omega, by omega, by omega⟩, Int.toNat_natCast]
  rw [e2, Option.bind_some]
  have hl := loop_run (step := F_siphash_Tag_l1 n (sumS k b)) (S := fun j => ((j : Int), (leB (sumS k b) n).take j ++ List.replicate (n - j) 0)) n (r := leB (sumS k b) n) (fun j hj => by
    unfold F_siphash_Tag_l1
    dsimp only
    have w1 : IntKind.wrap .i64 (8 * (j : Int)) = ((8 * j : Nat) : Int) := by rw [wi (by omega) (by omega)]; omega
    have hlen : ((leB (sumS k b) n).take j ++ List.replicate (n - j) (0 : Int)).length = n := by
      simp only [List.length_append, List.length_take, leB_len, List.length_replicate]; omega
    rw [decT (show (j : Int) < (n : Int) by omega), w1, decT (show (0 : Int) ≤ ((8 * j : Nat) : Int) by omega)]
    simp only [cond_true, Cut.app, Nat.zero_add, Int.toNat_natCast]
    rw [idx_lt (by omega), Option.bind_some, List.getElem?_eq_getElem (by omega), Option.bind_some, wk j (by omega), byte_eq (by omega) (by omega), Int.toNat_natCast]
    congr 3
    obtain ⟨m, hm⟩ : ∃ m, n - j = m + 1 := ⟨n - j - 1, by omega⟩
    rw [hm, List.replicate_succ, set_mid _ _ _ _ (by simp only [List.length_take, leB_len]; omega), take_snoc (leB_get hj), show n - (j + 1) = m by omega]
    simp) (by
    unfold F_siphash_Tag_l1
    dsimp only
    rw [decF (show ¬ (n : Int) < (n : Int) by omega)]
    simp only [cond_false]
    rw [List.take_of_length_le (by rw [leB_len]; exact Nat.le_refl _), Nat.sub_self]
    simp)
  simp only [Int.natCast_zero, List.take_zero, List.nil_append, Nat.sub_zero] at hl
  rw [hl]
  rfl
theorem ref_tag {k b : List Int} (hk : k.length = 16) (ok : okB k) (ob : okB b) (hb : b.length ≤ 4000000000000000000) (n : Nat) (h1 : 1 ≤ n) (h8 : n ≤ 8) : F_ref03_Tag k b n = some (leB (sumS k b) n, true) := by
  unfold F_ref03_Tag
  rw [decF (show ¬ (n : Int) < 1 by omega), decF (show ¬ (n : Int) > 8 by omega), ref_sum hk ok ob hb]
  simp only [cond_false, Option.bind_some]
  have hs := sumS_bd k b
  generalize sumS k b = v at *
  have hl := loop_run (step := F_ref03_Tag_l1 n) (S := fun j => (v / 2 ^ (8 * j), (leB v n).take j, (j : Int))) n (r := leB v n) (fun j hj => by
    unfold F_ref03_Tag_l1
    dsimp only
    rw [decT (show (j : Int) < (n : Int) by omega)]
    simp only [cond_true, Cut.app]
    rw [appO_some (by simp only [List.length_take, leB_len, List.length_singleton]; omega) (by simp only [List.length_take, leB_len, List.length_singleton]; omega), Option.bind_some, wk j (by omega), wrap8, take_snoc (leB_get hj), ishr_eq (by omega) (by omega)]
    congr 3
    have e : (2 : Int) ^ (8 : Int).toNat = 2 ^ 8 := by decide
    rw [e, Int.ediv_ediv_of_nonneg (Int.pow_nonneg (by omega)), ← Int.pow_add]
    rfl) (by
    unfold F_ref03_Tag_l1
    dsimp only
    rw [decF (show ¬ (n : Int) < (n : Int) by omega)]
    simp only [cond_false]
    rw [List.take_of_length_le (by rw [leB_len]; exact Nat.le_refl _)])
  simp only [Int.natCast_zero, List.take_zero, Nat.mul_zero, Int.pow_zero, Int.ediv_one] at hl
  rw [hl]
  rfl
end Go.Proofs.Ytbncbjblbdjddaa
