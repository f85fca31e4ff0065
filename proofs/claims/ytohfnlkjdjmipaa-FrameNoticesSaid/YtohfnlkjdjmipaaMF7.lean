/-
  The check over words of 16 bits is linear, and finds what is inverted within 16 consecutive bits.
-/
import Derived.Test.YtohfnlkjdjmipaaMF2
namespace Go.Proofs.Ytohfnlkjdjmipaa
open Go.RowKit

theorem tB_xor (a b : BitVec 16) : tB (a ^^^ b) = tB a ^^^ tB b := by
  unfold tB
  rw [BitVec.getLsbD_xor, BitVec.ushiftRight_xor_distrib]
  cases a.getLsbD 0 <;> cases b.getLsbD 0
  · rfl
  · simp only [Bool.xor_true, Bool.not_false, cond_true, cond_false, BitVec.xor_assoc]
  · simp only [Bool.xor_false, cond_true, cond_false]
    rw [BitVec.xor_assoc, BitVec.xor_assoc, BitVec.xor_comm (b >>> 1)]
  · simp only [Bool.xor_true, Bool.not_true, cond_true, cond_false]
    rw [BitVec.xor_assoc (a >>> 1), ← BitVec.xor_assoc (33800#16), BitVec.xor_comm (33800#16) (b >>> 1), BitVec.xor_assoc (b >>> 1), BitVec.xor_self, BitVec.xor_zero]
theorem tB_zero : tB 0#16 = 0#16 := by decide
theorem tB_inj {a : BitVec 16} (h : tB a = 0#16) : a = 0#16 := by
  unfold tB at h
  cases hb : a.getLsbD 0
  · rw [hb] at h
    simp only [cond_false] at h
    apply BitVec.eq_of_getLsbD_eq
    intro i hi
    rw [BitVec.getLsbD_zero]
    cases i with
    | zero => exact hb
    | succ i =>
      have := congrArg (fun v => v.getLsbD i) h
      simp only [BitVec.getLsbD_ushiftRight, BitVec.getLsbD_zero] at this
      rw [Nat.add_comm] at this
      exact this
  · rw [hb] at h
    simp only [cond_true] at h
    have := congrArg (fun v => v.getLsbD 15) h
    simp only [BitVec.getLsbD_xor, BitVec.getLsbD_ushiftRight, BitVec.getLsbD_zero] at this
    rw [BitVec.getLsbD_of_ge a (1 + 15) (by omega), show (33800#16).getLsbD 15 = true by decide] at this
    cases this
theorem rep_xor (n : Nat) (a b : BitVec 16) : rep n (a ^^^ b) = rep n a ^^^ rep n b := by
  induction n with
  | zero => rfl
  | succ n ih => unfold rep; rw [ih, tB_xor]
theorem rep_zero (n : Nat) : rep n 0#16 = 0#16 := by
  induction n with
  | zero => rfl
  | succ n ih => unfold rep; rw [ih, tB_zero]
theorem rep_inj {n : Nat} {a : BitVec 16} (h : rep n a = 0#16) : a = 0#16 := by
  induction n with
  | zero => exact h
  | succ n ih => unfold rep at h; exact ih (tB_inj h)
theorem rep_add (n m : Nat) (a : BitVec 16) : rep (n + m) a = rep n (rep m a) := by
  induction n with
  | zero => rw [Nat.zero_add]; rfl
  | succ n ih => rw [Nat.succ_add]; unfold rep; rw [ih]
theorem rep_one (k : Nat) (h : k < 16) : rep k (1#16 <<< k) = 1#16 := by
  have : ∀ i : Fin 16, rep i.val (1#16 <<< i.val) = 1#16 := by decide +kernel
  exact this ⟨k, h⟩
theorem rep_bit {n k : Nat} (h : k < 16) (hn : k ≤ n) : rep n (1#16 <<< k) = rep (n - k) 1#16 := by
  rw [show n = (n - k) + k by omega, rep_add, rep_one k h, Nat.add_sub_cancel]
theorem fold_xor : ∀ (l : List Int) (s e : BitVec 16), l.foldl sB (s ^^^ e) = l.foldl sB s ^^^ rep (8 * l.length) e
  | [], _, _ => rfl
  | x :: l, s, e => by
    simp only [List.foldl_cons, List.length_cons]
    have e1 : sB (s ^^^ e) x = sB s x ^^^ rep 8 e := by
      unfold sB
      rw [← rep_xor, BitVec.xor_assoc, BitVec.xor_comm e, ← BitVec.xor_assoc]
    rw [e1, fold_xor l, ← rep_add, show 8 * (l.length + 1) = 8 * l.length + 8 by omega]
theorem fold_set : ∀ (l : List Int) (s : BitVec 16) (p : Nat) (hp : p < l.length) (y : Int), (l.set p y).foldl sB s = l.foldl sB s ^^^ rep (8 * (l.length - p)) (BitVec.ofInt 16 l[p] ^^^ BitVec.ofInt 16 y)
  | [], _, p, hp, _ => by simp at hp
  | x :: l, s, 0, _, y => by
    simp only [List.set_cons_zero, List.foldl_cons, List.length_cons, List.getElem_cons_zero, Nat.sub_zero]
    have e1 : sB s y = sB s x ^^^ rep 8 (BitVec.ofInt 16 x ^^^ BitVec.ofInt 16 y) := by
      unfold sB
      rw [← rep_xor, BitVec.xor_assoc, ← BitVec.xor_assoc (BitVec.ofInt 16 x), BitVec.xor_self, BitVec.zero_xor]
    rw [e1, fold_xor, ← rep_add, show 8 * (l.length + 1) = 8 * l.length + 8 by omega]
  | x :: l, s, p + 1, hp, y => by
    simp only [List.set_cons_succ, List.foldl_cons, List.length_cons, List.getElem_cons_succ]
    rw [fold_set l _ p (by simpa using hp) y, Nat.add_sub_add_right]
theorem flip_bit {x : Int} (h : 0 ≤ x ∧ x ≤ 255) {r : Nat} (hr : r < 8) : BitVec.ofInt 16 x ^^^ BitVec.ofInt 16 (ixor .u8 x (ishl .u8 1 r)) = 1#16 <<< r ∧ 0 ≤ ixor .u8 x (ishl .u8 1 r) ∧ ixor .u8 x (ishl .u8 1 r) ≤ 255 := by
  have a : ∀ i : Fin 256, ∀ r : Fin 8, BitVec.ofInt 16 (i.val : Int) ^^^ BitVec.ofInt 16 (ixor .u8 (i.val : Int) (ishl .u8 1 (r.val : Int))) = 1#16 <<< r.val := by decide +kernel
  obtain ⟨n, rfl⟩ := Int.eq_ofNat_of_zero_le h.1
  exact ⟨a ⟨n, by omega⟩ ⟨r, hr⟩, wrap8_bd _⟩
theorem rep_hi {y : Int} (h : 0 ≤ y ∧ y ≤ 255) : rep 8 (BitVec.ofInt 16 (256 * y)) = BitVec.ofInt 16 y := by
  have a : ∀ i : Fin 256, rep 8 (BitVec.ofInt 16 (256 * (i.val : Int))) = BitVec.ofInt 16 (i.val : Int) := by decide +kernel
  obtain ⟨n, rfl⟩ := Int.eq_ofNat_of_zero_le h.1
  exact a ⟨n, by omega⟩
theorem xor_parts {x y : Int} (hx : 0 ≤ x ∧ x ≤ 255) (hy : 0 ≤ y ∧ y ≤ 255) : BitVec.ofInt 16 x ^^^ BitVec.ofInt 16 (256 * y) = BitVec.ofInt 16 (x + 256 * y) := by
  obtain ⟨a, rfl⟩ := Int.eq_ofNat_of_zero_le hx.1
  obtain ⟨b, rfl⟩ := Int.eq_ofNat_of_zero_le hy.1
  have e1 : (256 : Int) * (b : Int) = ((2 ^ 8 * b : Nat) : Int) := by omega
  have e2 : (a : Int) + ((2 ^ 8 * b : Nat) : Int) = ((2 ^ 8 * b + a : Nat) : Int) := by omega
  rw [e1, e2, BitVec.ofInt_natCast, BitVec.ofInt_natCast, BitVec.ofInt_natCast]
  apply BitVec.eq_of_getLsbD_eq
  intro i hi
  rw [BitVec.getLsbD_xor, BitVec.getLsbD_ofNat, BitVec.getLsbD_ofNat, BitVec.getLsbD_ofNat, Nat.testBit_two_pow_mul_add b (by omega), Nat.testBit_two_pow_mul]
  by_cases h8 : i < 8
  · rw [if_pos h8, show decide (i ≥ 8) = false by simp; omega]; simp
  · have : a.testBit i = false := Nat.testBit_lt_two_pow (Nat.lt_of_lt_of_le (show a < 2 ^ 8 by omega) (Nat.pow_le_pow_right (by omega) (by omega)))
    rw [if_neg h8, show decide (i ≥ 8) = true by simp; omega, this]; simp
theorem xor_eq_zero {a b : BitVec 16} (h : a ^^^ b = 0#16) : a = b := by
  have : a = a ^^^ b ^^^ b := by rw [BitVec.xor_assoc, BitVec.xor_self, BitVec.xor_zero]
  rw [this, h, BitVec.zero_xor]
/-- the check holds exactly if the whole has the rest zero -/
theorem check_iff {l : List Int} {x y : Int} (hx : 0 ≤ x ∧ x ≤ 255) (hy : 0 ≤ y ∧ y ≤ 255) : [x, y] = crcL l ↔ crcV (l ++ [x, y]) = 0#16 := by
  have e : crcV (l ++ [x, y]) = rep 8 (rep 8 (crcV l ^^^ BitVec.ofInt 16 x) ^^^ BitVec.ofInt 16 y) := by
    unfold crcV
    rw [List.foldl_append]
    rfl
  have hc := toI_bd (crcV l)
  rw [e]
  unfold crcL
  constructor
  · intro h
    injection h with h1 h2
    injection h2 with h2 _
    have ec : crcV l = BitVec.ofInt 16 x ^^^ BitVec.ofInt 16 (256 * y) := by
      rw [xor_parts hx hy, ← ofInt_toI (crcV l)]
      congr 1
      omega
    rw [ec, BitVec.xor_comm (BitVec.ofInt 16 x), BitVec.xor_assoc, BitVec.xor_self, BitVec.xor_zero, rep_hi hy, BitVec.xor_self, rep_zero]
  · intro h
    have h1 := rep_inj h
    rw [← rep_hi hy, ← rep_xor] at h1
    have h2 := rep_inj h1
    rw [BitVec.xor_assoc, xor_parts hx hy] at h2
    have h3 := xor_eq_zero h2
    rw [h3]
    have : toI (BitVec.ofInt 16 (x + 256 * y)) = x + 256 * y := by
      obtain ⟨n, hn⟩ := Int.eq_ofNat_of_zero_le (show 0 ≤ x + 256 * y by omega)
      rw [hn]
      unfold toI
      rw [BitVec.ofInt_natCast, BitVec.toNat_ofNat, Nat.mod_eq_of_lt (by omega)]
    rw [this]
    congr 1
    · omega
    · congr 1; omega
/-- the first k bits -/
def pre (p : BitVec 16) : Nat → BitVec 16
  | 0 => 0#16
  | k + 1 => bif p.getLsbD k then pre p k ^^^ (1#16 <<< k) else pre p k
theorem pre_hi (p : BitVec 16) (k j : Nat) (hj : k ≤ j) : (pre p k).getLsbD j = false := by
  induction k generalizing j with
  | zero => simp [pre]
  | succ k ih =>
    unfold pre
    cases p.getLsbD k
    · exact ih j (by omega)
    · simp only [cond_true, BitVec.getLsbD_xor]
      rw [ih j (by omega), BitVec.getLsbD_shiftLeft]
      by_cases hj2 : j < 16
      · have : (1#16).getLsbD (j - k) = false := by
          rw [BitVec.getLsbD_one]; simp; omega
        simp [this]
      · simp; omega
theorem pre_step {p : BitVec 16} {k : Nat} (hk : k < 16) : pre p k ^^^ (1#16 <<< k) ≠ 0#16 := by
  intro e
  have := congrArg (fun v => v.getLsbD k) e
  simp only [BitVec.getLsbD_xor, BitVec.getLsbD_zero] at this
  rw [pre_hi p k k (Nat.le_refl _), BitVec.getLsbD_shiftLeft] at this
  simp [hk] at this
end Go.Proofs.Ytohfnlkjdjmipaa
