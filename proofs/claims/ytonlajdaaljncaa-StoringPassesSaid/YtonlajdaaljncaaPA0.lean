/-
  Bits of bytes and of rows of sixteen bytes. No program in sight.
-/
import Derived.Test.YtonlajdaaljncaaP1
namespace Go.Proofs.Ytonlajdaaljncaa
open Go.RowKit

def Bytes (l : List Int) : Prop := ∀ z ∈ l, 0 ≤ z ∧ z ≤ 255
def bit8 (b : Int) (j : Nat) : Int := iand .u8 (ishr .u8 b (7 - (j : Int))) 1
def maskB (b : Int) (c : Nat) : Int := iandNot .u8 b (ishr .u8 255 (c : Int))
theorem byte_fin {b : Int} (h : 0 ≤ b ∧ b ≤ 255) : ∃ x : Fin 256, b = ((x : Nat) : Int) := ⟨⟨b.toNat, by omega⟩, by simp; omega⟩
theorem bit8_sum0 : ∀ x : Fin 256, ((x : Nat) : Int) = 128 * bit8 x 0 + 64 * bit8 x 1 + 32 * bit8 x 2 + 16 * bit8 x 3 + 8 * bit8 x 4 + 4 * bit8 x 5 + 2 * bit8 x 6 + bit8 x 7 := by decide +kernel
theorem bit8_ext {x y : Int} (hx : 0 ≤ x ∧ x ≤ 255) (hy : 0 ≤ y ∧ y ≤ 255) (h : ∀ j, j < 8 → bit8 x j = bit8 y j) : x = y := by
  obtain ⟨a, rfl⟩ := byte_fin hx
  obtain ⟨b, rfl⟩ := byte_fin hy
  rw [bit8_sum0 a, bit8_sum0 b, h 0 (by omega), h 1 (by omega), h 2 (by omega), h 3 (by omega), h 4 (by omega), h 5 (by omega), h 6 (by omega), h 7 (by omega)]
theorem maskB_bit0 : ∀ x : Fin 256, ∀ c : Fin 9, ∀ j : Fin 8, bit8 (maskB x c) j = if (j : Nat) < c then bit8 x j else 0 := by decide +kernel
theorem maskB_bit {x : Int} (hx : 0 ≤ x ∧ x ≤ 255) {c j : Nat} (hc : c ≤ 8) (hj : j < 8) : bit8 (maskB x c) j = if j < c then bit8 x j else 0 := by
  obtain ⟨a, rfl⟩ := byte_fin hx
  exact maskB_bit0 a ⟨c, by omega⟩ ⟨j, hj⟩
theorem maskB_byte0 : ∀ x : Fin 256, ∀ c : Fin 9, 0 ≤ maskB x c ∧ maskB x c ≤ 255 := by decide +kernel
theorem maskB_byte {x : Int} (hx : 0 ≤ x ∧ x ≤ 255) {c : Nat} (hc : c ≤ 8) : 0 ≤ maskB x c ∧ maskB x c ≤ 255 := by
  obtain ⟨a, rfl⟩ := byte_fin hx
  exact maskB_byte0 a ⟨c, by omega⟩
theorem bit8_01_0 : ∀ x : Fin 256, ∀ j : Fin 8, bit8 x j = 0 ∨ bit8 x j = 1 := by decide +kernel
theorem bit8_01 {x : Int} (hx : 0 ≤ x ∧ x ≤ 255) {j : Nat} (hj : j < 8) : bit8 x j = 0 ∨ bit8 x j = 1 := by
  obtain ⟨a, rfl⟩ := byte_fin hx
  exact bit8_01_0 a ⟨j, hj⟩

theorem getD_byte {l : List Int} (h : Bytes l) (i : Nat) : 0 ≤ l.getD i 0 ∧ l.getD i 0 ≤ 255 := getD_mem (p := fun z => 0 ≤ z ∧ z ≤ 255) h ⟨by omega, by omega⟩ i
/-- bit k of a row of bytes -/
def bitA (l : List Int) (k : Nat) : Int := bit8 (l.getD (k / 8) 0) (k % 8)
theorem bitA_ext {a b : List Int} (ha : a.length = 16) (hb : b.length = 16) (Ba : Bytes a) (Bb : Bytes b) (h : ∀ k, k < 128 → bitA a k = bitA b k) : a = b := by
  apply List.ext_getElem (by omega)
  intro i h1 h2
  have e : a.getD i 0 = b.getD i 0 := by
    refine bit8_ext (getD_byte Ba i) (getD_byte Bb i) (fun j hj => ?_)
    have := h (8 * i + j) (by omega)
    unfold bitA at this
    rwa [show (8 * i + j) / 8 = i by omega, show (8 * i + j) % 8 = j by omega] at this
  rwa [getD_get h1, getD_get h2] at e
def clamp (bits i : Nat) : Nat := min 8 (bits - 8 * i)
def maskL (l : List Int) (bits : Nat) : List Int := (List.range 16).map fun i => maskB (l.getD i 0) (clamp bits i)
theorem maskL_len (l : List Int) (bits : Nat) : (maskL l bits).length = 16 := by simp [maskL]
theorem maskL_get (l : List Int) (bits : Nat) {i : Nat} (hi : i < 16) : (maskL l bits).getD i 0 = maskB (l.getD i 0) (clamp bits i) := by
  simp [maskL, List.getD_eq_getElem?_getD, List.getElem?_range hi]
theorem maskL_bytes {l : List Int} (h : Bytes l) (bits : Nat) : Bytes (maskL l bits) := by
  intro z hz
  obtain ⟨i, _, rfl⟩ := List.mem_map.1 hz
  exact maskB_byte (getD_byte h i) (by unfold clamp; omega)
theorem bitA_mask {l : List Int} (h : Bytes l) (bits : Nat) {k : Nat} (hk : k < 128) : bitA (maskL l bits) k = if k < bits then bitA l k else 0 := by
  unfold bitA
  rw [maskL_get l bits (show k / 8 < 16 by omega), maskB_bit (getD_byte h _) (by unfold clamp; omega) (by omega)]
  by_cases hb : k < bits
  · rw [if_pos hb, if_pos (by unfold clamp; omega)]
  · rw [if_neg hb, if_neg (by unfold clamp; omega)]
/-- the bits behind the first ones are zero -/
def zeroFrom (l : List Int) (bits : Nat) : Prop := ∀ k, k < 128 → bits ≤ k → bitA l k = 0
theorem mask_eq_self {l : List Int} (hl : l.length = 16) (h : Bytes l) (bits : Nat) : maskL l bits = l ↔ zeroFrom l bits := by
  constructor
  · intro e k hk hb
    have := bitA_mask h bits hk
    rw [e, if_neg (by omega)] at this
    exact this
  · intro hz
    refine bitA_ext (maskL_len _ _) hl (maskL_bytes h _) h (fun k hk => ?_)
    rw [bitA_mask h bits hk]
    split
    · rfl
    · exact (hz k hk (by omega)).symm
theorem mask_eq_other {l a : List Int} (hl : l.length = 16) (h : Bytes l) (ha : Bytes a) {bits : Nat} (hz : zeroFrom l bits) : maskL a bits = l ↔ ∀ k, k < 128 → k < bits → bitA l k = bitA a k := by
  constructor
  · intro e k hk hb
    have := bitA_mask ha bits hk
    rw [e, if_pos hb] at this
    exact this
  · intro hq
    refine bitA_ext (maskL_len _ _) hl (maskL_bytes ha _) h (fun k hk => ?_)
    rw [bitA_mask ha bits hk]
    split
    · rename_i hb; exact (hq k hk hb).symm
    · exact (hz k hk (by omega)).symm
theorem zero_bytes (n : Nat) : Bytes (List.replicate n 0) := by
  intro z hz
  have := (List.mem_replicate.1 hz).2
  omega
theorem set_bytes {l : List Int} (h : Bytes l) (i : Nat) {v : Int} (hv : 0 ≤ v ∧ v ≤ 255) : Bytes (l.set i v) := by
  intro z hz
  rcases List.mem_or_eq_of_mem_set hz with h1 | rfl
  · exact h z h1
  · exact hv
end Go.Proofs.Ytonlajdaaljncaa
