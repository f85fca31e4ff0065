/-
  siphash.little and the reference's number read at most eight bytes, the least significant one first.
-/
import Derived.Test.YtbncbjblbdjddaaSipWalks
import Derived.Test.YtbncbjblbdjddaaBytes
namespace Go.Proofs.Ytbncbjblbdjddaa
open Go.RowKit

set_option maxHeartbeats 400000 in
theorem little_any (A : Option Addr) (n c : Nat) (xs : List UInt8) (w : World) (h : Reads w A n xs) (h8 : n ≤ 8) :
    Calls Try.prog 20 #[.slice A n c] w fun e w' => e = .returned (.int .u64 (leNat xs)) ∧ w = w' := by
  have hl := h.1
  have HL := Lib.hid hl
  have H := Lib.hid h
  clear hl h
  go_enter Try.func20, Try.ntmps20
  go_wp2
  go_loop [3, 8] (fun t i => ∃ k : Nat, k ≤ n ∧ i = .int .i64 k ∧ t = .int .u64 (leNat (xs.take k))) (fun _ i => n - (intOf i).toNat)
  case atStart => exact ⟨0, Nat.zero_le _, rfl, rfl⟩
  case round =>
    obtain ⟨k, hk, rfl, rfl⟩ := hrel
    by_cases hlt : k < n
    · obtain ⟨b, off, rfl, _, _⟩ := H.out.2 (by omega)
      have hc := H.out.cell hlt
      go_wp2
      rw [wrap_byte, little_step (by have := HL.out; omega) (by have := HL.out; omega)]
      exact ⟨⟨k + 1, by omega, by go_num, rfl⟩, by simp [intOf]; omega⟩
    · go_wp2
      go_ret
      refine ⟨?_, rfl⟩
      have hl := HL.out
      have ht : xs.take k = xs := List.take_of_length_le (by omega)
      show Ending.returned (.int .u64 (leNat (xs.take k))) = _
      rw [ht]

set_option maxHeartbeats 400000 in
theorem number_any (A : Option Addr) (n c : Nat) (xs : List UInt8) (w : World) (h : Reads w A n xs) (h8 : n ≤ 8) :
    Calls Try.prog 23 #[.slice A n c] w fun e w' => e = .returned (.int .u64 (leNat xs)) ∧ w = w' := by
  have hl := h.1
  have HL := Lib.hid hl
  have H := Lib.hid h
  clear hl h
  go_enter Try.func23, Try.ntmps23
  go_wp2
  go_loop [3, 4] (fun t i => ∃ k : Nat, k ≤ n ∧ i = .int .i64 (k - 1) ∧ t = .int .u64 (leNat (xs.drop k))) (fun _ i => (intOf i + 1).toNat)
  case atStart => exact ⟨n, Nat.le_refl _, rfl, by have := HL.out; rw [List.drop_of_length_le (by omega)]; rfl⟩
  case round =>
    obtain ⟨k, hk, rfl, rfl⟩ := hrel
    by_cases hlt : 0 < k
    · obtain ⟨j, rfl⟩ : ∃ j, k = j + 1 := ⟨k - 1, by omega⟩
      obtain ⟨b, off, rfl, _, _⟩ := H.out.2 (by omega)
      have hc := H.out.cell (k := j) (by omega)
      go_wp2
      rw [wrap_byte, number_step (by have := HL.out; omega) (by have := HL.out; omega)]
      exact ⟨⟨j, by omega, rfl, rfl⟩, by simp [intOf]⟩
    · go_wp2
      go_ret
      refine ⟨?_, rfl⟩
      obtain rfl : k = 0 := by omega
      rfl

end Go.Proofs.Ytbncbjblbdjddaa
