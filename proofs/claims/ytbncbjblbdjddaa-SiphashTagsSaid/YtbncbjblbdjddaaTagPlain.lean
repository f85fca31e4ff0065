/-
  The bytes of a number, the least significant one first.
-/
import Derived.Test.YtbncbjblbdjddaaSipPlain
import Derived.Laws.MakeOwn
namespace Go.Proofs.Ytbncbjblbdjddaa
open Go.RowKit

def byteAt (s : Int) (i : Nat) : UInt8 := UInt8.ofNat (s.toNat / 2 ^ (8 * i))
def tagOf (s : Int) (n : Nat) : List UInt8 := (List.range n).map (byteAt s)
theorem tagOf_length (s : Int) (n : Nat) : (tagOf s n).length = n := by simp [tagOf]
theorem tagOf_succ (s : Int) (n : Nat) : tagOf s (n + 1) = tagOf s n ++ [byteAt s n] := by simp [tagOf, List.range_succ]
theorem tagOf_take (s : Int) {n m : Nat} (h : n ≤ m) : (tagOf s m).take n = tagOf s n := by
  unfold tagOf
  rw [← List.map_take, List.take_range, Nat.min_eq_left h]

theorem IntKind.wrap_u8 (n : Int) : IntKind.u8.wrap n = n % 256 := by simp [IntKind.wrap, IntKind.bits, IntKind.signed]
theorem byte_shift {s : Int} (h : 0 ≤ s) (k : Nat) : IntKind.u8.wrap (s / 2 ^ (8 * k)) = ((byteAt s k).toNat : Int) := by
  obtain ⟨m, rfl⟩ := Int.eq_ofNat_of_zero_le h
  rw [IntKind.wrap_u8]
  unfold byteAt
  rw [UInt8.toNat_ofNat', Int.toNat_natCast]
  have : ((m : Int) / 2 ^ (8 * k)) = ((m / 2 ^ (8 * k) : Nat) : Int) := by push_cast; rfl
  rw [this]
  omega
theorem shift_shift (s : Int) (k : Nat) : s / 2 ^ (8 * k) / 256 = s / 2 ^ (8 * (k + 1)) := by
  have e : (2 : Int) ^ (8 * (k + 1)) = 2 ^ (8 * k) * 256 := by
    rw [Nat.mul_add, Int.pow_add]
    rfl
  rw [e, Int.ediv_ediv_of_nonneg (Int.le_of_lt (Int.pow_pos (by decide)))]

theorem bits_range (op : BinOp) (a b : Int) : 0 ≤ bits op .u64 a b ∧ bits op .u64 a b < 18446744073709551616 := by
  unfold bits
  rw [IntKind.wrap_u64]
  omega
theorem out_range (u : St) : 0 ≤ u.out ∧ u.out < 18446744073709551616 := by
  unfold St.out
  rw [show ∀ a b, xorI a b = bits .xor .u64 a b from fun _ _ => rfl]
  exact bits_range _ _ _
theorem sip_range (key xs : List UInt8) : 0 ≤ sip key xs ∧ sip key xs < 18446744073709551616 := by
  unfold sip
  exact out_range _

/-- a row of bytes that is filled from its beginning -/
def rowAt (s : Int) (n : Nat) : Nat → Array Value
  | 0 => madeCells #[.int .u8 0] n
  | k + 1 => (rowAt s n k).setIfInBounds k (B8 (byteAt s k))
theorem rowAt_size (s : Int) (n : Nat) : ∀ k, (rowAt s n k).size = n
  | 0 => size_madeCells _ _
  | k + 1 => by simp [rowAt, rowAt_size s n k]
theorem rowAt_get (s : Int) (n : Nat) : ∀ k, k ≤ n → ∀ j, j < k → (rowAt s n k)[j]? = some (B8 (byteAt s j))
  | 0, _, j, hj => by omega
  | k + 1, hk, j, hj => by
    have hs := rowAt_size s n k
    unfold rowAt
    rw [Array.getElem?_setIfInBounds]
    by_cases h : k = j
    · subst h; rw [if_pos rfl, if_pos (by omega)]
    · rw [if_neg h]; exact rowAt_get s n k (by omega) j (by omega)
theorem rowAt_reads (s : Int) (n : Nat) (w : World) (t : TypeId) : Reads (w.alloc (.cells (rowAt s n n) t)) (some ⟨w.heap.size, 0, none⟩) n (tagOf s n) := by
  refine ⟨tagOf_length s n, fun _ => ⟨_, _, rfl, by simp, fun j x hx => ?_⟩⟩
  have hj : j < n := by
    rcases Nat.lt_or_ge j n with h | h
    · exact h
    · rw [List.getElem?_eq_none (by rw [tagOf_length]; exact h)] at hx; cases hx
  rw [Nat.zero_add, World.cell?_alloc_new, rowAt_get s n n (Nat.le_refl _) j hj]
  unfold tagOf at hx
  rw [List.getElem?_map, List.getElem?_range hj] at hx
  simp only [Option.map_some, Option.some.injEq] at hx
  rw [hx]
end Go.Proofs.Ytbncbjblbdjddaa
