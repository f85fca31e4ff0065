/-
  MessagesPacks, proved for all arguments.
-/
import Derived.Test.YtcemblilhbidgaaKP4
namespace Go.Proofs.Ytcemblilhbidgaa
section
open Go.RowKit

def okB (l : List Int) : Prop := ∀ z ∈ l, 0 ≤ z ∧ z ≤ 255
theorem okB_nil : okB [] := fun z h => by simp at h
theorem okB.append {a b : List Int} (ha : okB a) (hb : okB b) : okB (a ++ b) := fun z h => (List.mem_append.1 h).elim (ha z) (hb z)
theorem okB.get {l : List Int} (h : okB l) {i : Nat} (hi : i < l.length) : 0 ≤ l[i] ∧ l[i] ≤ 255 := h _ (List.getElem_mem hi)
theorem okB.take {l : List Int} (h : okB l) (n : Nat) : okB (l.take n) := fun z hz => h z (List.mem_of_mem_take hz)
theorem okB.drop {l : List Int} (h : okB l) (n : Nat) : okB (l.drop n) := fun z hz => h z (List.mem_of_mem_drop hz)
theorem okB.set {l : List Int} (h : okB l) (n : Nat) {v : Int} (hv : 0 ≤ v ∧ v ≤ 255) : okB (l.set n v) := fun z hz => (List.mem_or_eq_of_mem_set hz).elim (h z) (fun e => e ▸ hv)
theorem okB.getD {l : List Int} (h : okB l) (n : Nat) : 0 ≤ l.getD n 0 ∧ l.getD n 0 ≤ 255 := getD_mem (p := fun z => 0 ≤ z ∧ z ≤ 255) h (by omega) n
theorem okB_one {v : Int} (h : 0 ≤ v ∧ v ≤ 255) : okB [v] := fun z hz => by rw [List.mem_singleton.1 hz]; exact h
theorem okB_cons {v : Int} {l : List Int} (h : 0 ≤ v ∧ v ≤ 255) (k : okB l) : okB (v :: l) := fun z hz => (List.mem_cons.1 hz).elim (fun e => e ▸ h) (k z)
theorem okB_wf {l : List Int} (h : ∀ z ∈ l, wfI .u8 z) : okB l := fun z hz => by
  have := h z hz
  simp [wfI, Lit.wf, IntKind.min, IntKind.max, IntKind.bits, IntKind.signed] at this
  omega
theorem u8_inj {a b : Int} (ha : 0 ≤ a ∧ a ≤ 255) (hb : 0 ≤ b ∧ b ≤ 255) (h : a.toNat.toUInt8 = b.toNat.toUInt8) : a = b := by
  have e1 : (a.toNat.toUInt8).toNat = a.toNat := by simp [Nat.toUInt8]; omega
  have e2 : (b.toNat.toUInt8).toNat = b.toNat := by simp [Nat.toUInt8]; omega
  rw [h] at e1
  omega
theorem u8L_inj : ∀ {a b : List Int}, okB a → okB b → u8L a = u8L b → a = b
  | [], [], _, _, _ => rfl
  | [], _ :: _, _, _, h => by simp [u8L] at h
  | _ :: _, [], _, _, h => by simp [u8L] at h
  | x :: s, y :: t, ha, hb, h => by
    simp only [u8L, List.map_cons, List.cons.injEq] at h
    rw [u8_inj (ha x (by simp)) (hb y (by simp)) h.1, u8L_inj (fun z hz => ha z (by simp [hz])) (fun z hz => hb z (by simp [hz])) h.2]
theorem u8L_beq {a b : List Int} (ha : okB a) (hb : okB b) : (u8L a == u8L b) = decide (a = b) := by
  by_cases h : a = b
  · subst h; simp
  · rw [decF h]
    exact beqF (fun q => h (u8L_inj ha hb q))
theorem ishr_eq {x y : Int} (h0 : 0 ≤ y) (h1 : y < 64) : ishr .u64 x y = x / 2 ^ y.toNat := by
  unfold ishr
  rw [show min y.toNat IntKind.u64.bits = y.toNat by simp [IntKind.bits]; omega]
  exact Int.fdiv_eq_ediv_of_nonneg _ (Int.pow_nonneg (by omega))
theorem ishl_eq {x y : Int} (h0 : 0 ≤ y) (h1 : y < 64) : ishl .u64 x y = (x * 2 ^ y.toNat) % 18446744073709551616 := by
  unfold ishl
  rw [show min y.toNat IntKind.u64.bits = y.toNat by simp [IntKind.bits]; omega, wrap64]
theorem byte_eq {v : Int} {j : Int} (h0 : 0 ≤ j) (h1 : j < 64) : IntKind.wrap .u8 (ishr .u64 v j) = v / 2 ^ j.toNat % 256 := by
  rw [ishr_eq h0 h1, wrap8]
theorem ior_add {x y : Int} (i : Nat) (h0 : 0 ≤ x) (h1 : x < 2 ^ i) (h2 : 0 ≤ y) (h3 : x + y * 2 ^ i < 18446744073709551616) : ior .u64 x (y * 2 ^ i) = x + y * 2 ^ i := by
  obtain ⟨a, rfl⟩ := Int.eq_ofNat_of_zero_le h0
  obtain ⟨b, rfl⟩ := Int.eq_ofNat_of_zero_le h2
  have hp : ((b : Int) * 2 ^ i) = ((b * 2 ^ i : Nat) : Int) := by rw [Int.natCast_mul, Int.natCast_pow]; rfl
  have ha : a < 2 ^ i := by
    have e : ((2 : Int) ^ i) = ((2 ^ i : Nat) : Int) := by rw [Int.natCast_pow]; rfl
    rw [e] at h1
    omega
  rw [hp] at h3 ⊢
  have h3' : a + b * 2 ^ i < 18446744073709551616 := by omega
  unfold ior
  have e1 : (BitVec.ofInt IntKind.u64.bits (a : Int)).toNat = a := by
    rw [BitVec.toNat_ofInt]
    simp only [IntKind.bits]
    omega
  have e2 : (BitVec.ofInt IntKind.u64.bits ((b * 2 ^ i : Nat) : Int)).toNat = b * 2 ^ i := by
    rw [BitVec.toNat_ofInt]
    simp only [IntKind.bits]
    omega
  rw [BitVec.toNat_or, e1, e2, Nat.or_comm, show b * 2 ^ i ||| a = 2 ^ i * b + a by rw [Nat.two_pow_add_eq_or_of_lt ha, Nat.mul_comm]]
  rw [wrap64, Nat.mul_comm]
  omega

def beB (v : Int) (n : Nat) : List Int := (List.range n).map fun i => v / 2 ^ (8 * (n - 1 - i)) % 256
theorem beB_len (v : Int) (n : Nat) : (beB v n).length = n := by simp [beB]
theorem beB_ok (v : Int) (n : Nat) : okB (beB v n) := fun z hz => by
  obtain ⟨i, _, rfl⟩ := List.mem_map.1 hz
  omega
theorem beB_get {v : Int} {n i : Nat} (h : i < n) : (beB v n)[i]? = some (v / 2 ^ (8 * (n - 1 - i)) % 256) := by
  unfold beB
  rw [List.getElem?_map, List.getElem?_range h]; rfl
theorem take_snoc {α : Type} {l : List α} {k : Nat} {x : α} (h : l[k]? = some x) : l.take (k + 1) = l.take k ++ [x] := by
  rw [List.take_add_one, h]; rfl
theorem set_mid {α : Type} (a b : List α) (x y : α) {k : Nat} (h : k = a.length) : (a ++ x :: b).set k y = a ++ y :: b := by
  subst h
  rw [List.set_append_right _ _ (Nat.le_refl _), Nat.sub_self]
  rfl

/-- the number of bytes, the greatest first -/
def beN : List Int → Int := fun l => l.foldl (fun v c => v * 256 + c) 0
theorem beN_snoc (l : List Int) (x : Int) : beN (l ++ [x]) = beN l * 256 + x := by simp [beN]
theorem beN_aux : ∀ (l : List Int) (v : Int), okB l → 0 ≤ v → 0 ≤ l.foldl (fun v c => v * 256 + c) v ∧ l.foldl (fun v c => v * 256 + c) v < (v + 1) * 256 ^ l.length
  | [], v, _, h => by simp; omega
  | x :: l, v, h, hv => by
    have h1 := h x (by simp)
    obtain ⟨a, b⟩ := beN_aux l (v * 256 + x) (fun z hz => h z (by simp [hz])) (by omega)
    refine ⟨a, Int.lt_of_lt_of_le b ?_⟩
    have e : (v + 1) * (256 : Int) ^ (x :: l).length = (v + 1) * 256 * 256 ^ l.length := by
      rw [List.length_cons, Int.pow_succ, Int.mul_comm ((256 : Int) ^ l.length) 256, Int.mul_assoc]
    rw [e]
    exact Int.mul_le_mul_of_nonneg_right (by omega) (Int.pow_nonneg (by omega))
theorem beN_bd {l : List Int} (h : okB l) : 0 ≤ beN l ∧ beN l < 256 ^ l.length := by
  have := beN_aux l 0 h (by omega)
  simpa [beN] using this
end
section
open Go.RowKit

theorem put_n (v : Int) (n : Nat) (hn : n ≤ 8) : F_ref29_Put_N0 v n = some (beB v n) := by
  unfold F_ref29_Put_N0
  rw [wi (by omega) (by omega)]
  have hl := loop_run (step := F_ref29_Put_N0_l1 v) (S := fun k => ((beB v n).take k, (n : Int) - 1 - (k : Int))) n (r := beB v n) (fun k hk => by
    unfold F_ref29_Put_N0_l1
    dsimp only
    have w1 : IntKind.wrap .i64 (8 * ((n : Int) - 1 - (k : Int))) = ((8 * (n - 1 - k) : Nat) : Int) := by rw [wi (by omega) (by omega)]; omega
    have w2 : IntKind.wrap .u64 ((8 * (n - 1 - k) : Nat) : Int) = ((8 * (n - 1 - k) : Nat) : Int) := wu (by omega) (by omega)
    have w3 : IntKind.wrap .i64 ((n : Int) - 1 - (k : Int) - 1) = (n : Int) - 1 - ((k + 1 : Nat) : Int) := by rw [wi (by omega) (by omega)]; omega
    rw [decT (show (n : Int) - 1 - (k : Int) ≥ 0 by omega), w1, w2, w3, decT (show (0 : Int) ≤ ((8 * (n - 1 - k) : Nat) : Int) by omega)]
    simp only [cond_true, Cut.app]
    rw [appO_some (by simp only [List.length_take, beB_len, List.length_singleton]; omega) (by simp only [List.length_take, beB_len, List.length_singleton]; omega), Option.bind_some, byte_eq (by omega) (by omega), Int.toNat_natCast, take_snoc (beB_get hk)]) (by
    unfold F_ref29_Put_N0_l1
    dsimp only
    rw [decF (show ¬ (n : Int) - 1 - (n : Int) ≥ 0 by omega)]
    simp only [cond_false]
    rw [List.take_of_length_le (by rw [beB_len]; exact Nat.le_refl _)])
  simp only [Int.natCast_zero, List.take_zero, Int.sub_zero] at hl
  rw [hl]
  rfl
theorem put_g (a : List Int) (v : Int) (n : Nat) (hn : n ≤ 8) (ha : a.length ≤ 1000000000000) : F_ref29_Put_G0 a v n = some (a ++ beB v n) := by
  unfold F_ref29_Put_G0
  rw [wi (by omega) (by omega)]
  have hl := loop_run (step := F_ref29_Put_G0_l1 v) (S := fun k => (a ++ (beB v n).take k, (n : Int) - 1 - (k : Int))) n (r := a ++ beB v n) (fun k hk => by
    unfold F_ref29_Put_G0_l1
    dsimp only
    have w1 : IntKind.wrap .i64 (8 * ((n : Int) - 1 - (k : Int))) = ((8 * (n - 1 - k) : Nat) : Int) := by rw [wi (by omega) (by omega)]; omega
    have w2 : IntKind.wrap .u64 ((8 * (n - 1 - k) : Nat) : Int) = ((8 * (n - 1 - k) : Nat) : Int) := wu (by omega) (by omega)
    have w3 : IntKind.wrap .i64 ((n : Int) - 1 - (k : Int) - 1) = (n : Int) - 1 - ((k + 1 : Nat) : Int) := by rw [wi (by omega) (by omega)]; omega
    rw [decT (show (n : Int) - 1 - (k : Int) ≥ 0 by omega), w1, w2, w3, decT (show (0 : Int) ≤ ((8 * (n - 1 - k) : Nat) : Int) by omega)]
    simp only [cond_true, Cut.app]
    rw [appO_some (by simp only [List.length_append, List.length_take, beB_len, List.length_singleton]; omega) (by simp only [List.length_append, List.length_take, beB_len, List.length_singleton]; omega), Option.bind_some, byte_eq (by omega) (by omega), Int.toNat_natCast, take_snoc (beB_get hk), List.append_assoc]) (by
    unfold F_ref29_Put_G0_l1
    dsimp only
    rw [decF (show ¬ (n : Int) - 1 - (n : Int) ≥ 0 by omega)]
    simp only [cond_false]
    rw [List.take_of_length_le (by rw [beB_len]; exact Nat.le_refl _)])
  simp only [Int.natCast_zero, List.take_zero, List.append_nil, Int.sub_zero] at hl
  rw [hl]
  rfl
end
section
open Go.RowKit

theorem octets_append_n (a : List Int) (v : Int) (n : Nat) (hn : n ≤ 8) (ha : a.length ≤ 140737488355320) : F_octets_Append_j1 a v n = some (a ++ beB v n) := by
  unfold F_octets_Append_j1
  have e1 : IntKind.wrap .i64 ((a.length : Int) + (n : Int)) = ((a.length + n : Nat) : Int) := by rw [wi (by omega) (by omega)]; rfl
  rw [e1]
  have e2 : mkO 1 ((a.length + n : Nat) : Int) ((a.length + n : Nat) : Int) = some (a.length + n) := by
    unfold mkO
    rw [if_pos ⟨by omega, by omega, by omega, by omega⟩, Int.toNat_natCast]
  rw [e2, Option.bind_some]
  have e3 : cpL (List.replicate (a.length + n) (0 : Int)) 0 (List.length (Cut.app .whole (List.replicate (a.length + n) (0 : Int)))) (Cut.app .whole a) = a ++ (beB v n).take 0 ++ List.replicate (n - 0) 0 := by
    unfold cpL
    simp only [Cut.app, List.length_replicate, List.take_zero, List.nil_append, List.append_nil, Nat.zero_add, Nat.sub_zero]
    rw [show min a.length (a.length + n) = a.length by omega, List.take_length, List.drop_replicate, show a.length + n - a.length = n by omega]
  rw [e3]
  have hl := loop_run (step := F_octets_Append_l2 n a v) (S := fun k => ((k : Int), a ++ (beB v n).take k ++ List.replicate (n - k) 0)) n (r := a ++ beB v n) (fun k hk => by
    unfold F_octets_Append_l2
    dsimp only
    have w1 : IntKind.wrap .i64 ((n : Int) - 1) = (n : Int) - 1 := wi (by omega) (by omega)
    have w2 : IntKind.wrap .i64 ((n : Int) - 1 - (k : Int)) = ((n - 1 - k : Nat) : Int) := by rw [wi (by omega) (by omega)]; omega
    have w3 : IntKind.wrap .i64 (8 * ((n - 1 - k : Nat) : Int)) = ((8 * (n - 1 - k) : Nat) : Int) := by rw [wi (by omega) (by omega)]; omega
    have w4 : IntKind.wrap .i64 ((a.length : Int) + (k : Int)) = ((a.length + k : Nat) : Int) := by rw [wi (by omega) (by omega)]; rfl
    have hlen : (a ++ (beB v n).take k ++ List.replicate (n - k) (0 : Int)).length = a.length + n := by
      simp only [List.length_append, List.length_take, beB_len, List.length_replicate]; omega
    rw [decT (show (k : Int) < (n : Int) by omega), w1, w2, w3, w4, decT (show (0 : Int) ≤ ((8 * (n - 1 - k) : Nat) : Int) by omega)]
    simp only [cond_true, Cut.app, Nat.zero_add, Int.toNat_natCast]
    rw [idx_lt (by omega), Option.bind_some, List.getElem?_eq_getElem (by omega), Option.bind_some, wk k (by omega), byte_eq (by omega) (by omega), Int.toNat_natCast]
    congr 3
    obtain ⟨m, hm⟩ : ∃ m, n - k = m + 1 := ⟨n - k - 1, by omega⟩
    rw [hm, List.replicate_succ, set_mid _ _ _ _ (by simp only [List.length_append, List.length_take, beB_len]; omega), take_snoc (beB_get hk), show n - (k + 1) = m by omega]
    simp) (by
    unfold F_octets_Append_l2
    dsimp only
    rw [decF (show ¬ (n : Int) < (n : Int) by omega)]
    simp only [cond_false]
    rw [List.take_of_length_le (by rw [beB_len]; exact Nat.le_refl _), Nat.sub_self]
    simp)
  simp only [Int.natCast_zero] at hl
  rw [hl]
  rfl
/-- octets.Append -/
theorem octets_append (a : List Int) (v : Int) (n : Nat) (hn : n ≤ 8) (ha : a.length ≤ 140737488355320) : F_octets_Append a v n = some (a ++ beB v n) := by
  unfold F_octets_Append
  rw [decF (show ¬ (n : Int) < 0 by omega), decF (show ¬ (n : Int) > 8 by omega)]
  exact octets_append_n a v n hn ha
end
section
open Go.RowKit

def Bytes (l : List Int) : Prop := ∀ z ∈ l, 0 ≤ z ∧ z ≤ 255
def bit8 (b : Int) (j : Nat) : Int := iand .u8 (ishr .u8 b (7 - (j : Int))) 1
def maskB (b : Int) (c : Nat) : Int := iandNot .u8 b (ishr .u8 255 (c : Int))
theorem byte_fin {b : Int} (h : 0 ≤ b ∧ b ≤ 255) : ∃ x : Fin 256, b = ((x : Nat) : Int) := ⟨⟨b.toNat, by omega⟩, by simp; omega⟩
theorem bit8_sum0 : ∀ x : Fin 256, ((x : Nat) : Int) = 128 * bit8 x 0 + 64 * bit8 x 1 + 32 * bit8 x 2 + 16 * bit8 x 3 + 8 * bit8 x 4 + 4 * bit8 x 5 + 2 * bit8 x 6 + bit8 x 7 := by decide +kernel
theorem bit8_ext {x y : Int} (hx : 0 ≤ x ∧ x ≤ 255) (hy : 0 ≤ y ∧ y ≤ 255) (h : ∀ j, j < 8 → bit8 x j = bit8 y j) : x = y := by
  obtain ⟨a, rfl⟩ := byte_fin hx
  obtain ⟨b, rfl⟩ := byte_fin hy
  rw [bit8_sum0 a, bit8_sum0 b, h 0 (by omega), h 1 (by omega), h 2 (by omega), h 3 (by omega), h 4 (by omega), h 5 (by omega), h 6 (by omega), h 7 (by omega)]
theorem maskB_bit0 : ∀ x : Fin 256, ∀ c : Fin 9, ∀ j : Fin 8, bit8 (maskB x c) j = if (j : Nat) < c then bit8 x j else 0 := by decide +kernel
theorem maskB_bit {x : Int} (hx : 0 ≤ x ∧ x ≤ 255) {c j : Nat} (hc : c ≤ 8) (hj : j < 8) : bit8 (maskB x c) j = if j < c then bit8 x j else 0 := by
  obtain ⟨a, rfl⟩ := byte_fin hx
  exact maskB_bit0 a ⟨c, by omega⟩ ⟨j, hj⟩
theorem maskB_byte0 : ∀ x : Fin 256, ∀ c : Fin 9, 0 ≤ maskB x c ∧ maskB x c ≤ 255 := by decide +kernel
theorem maskB_byte {x : Int} (hx : 0 ≤ x ∧ x ≤ 255) {c : Nat} (hc : c ≤ 8) : 0 ≤ maskB x c ∧ maskB x c ≤ 255 := by
  obtain ⟨a, rfl⟩ := byte_fin hx
  exact maskB_byte0 a ⟨c, by omega⟩
theorem bit8_01_0 : ∀ x : Fin 256, ∀ j : Fin 8, bit8 x j = 0 ∨ bit8 x j = 1 := by decide +kernel
theorem bit8_01 {x : Int} (hx : 0 ≤ x ∧ x ≤ 255) {j : Nat} (hj : j < 8) : bit8 x j = 0 ∨ bit8 x j = 1 := by
  obtain ⟨a, rfl⟩ := byte_fin hx
  exact bit8_01_0 a ⟨j, hj⟩

theorem getD_byte {l : List Int} (h : Bytes l) (i : Nat) : 0 ≤ l.getD i 0 ∧ l.getD i 0 ≤ 255 := getD_mem (p := fun z => 0 ≤ z ∧ z ≤ 255) h ⟨by omega, by omega⟩ i
/-- bit k of a row of bytes -/
def bitA (l : List Int) (k : Nat) : Int := bit8 (l.getD (k / 8) 0) (k % 8)
theorem bitA_ext {a b : List Int} (ha : a.length = 16) (hb : b.length = 16) (Ba : Bytes a) (Bb : Bytes b) (h : ∀ k, k < 128 → bitA a k = bitA b k) : a = b := by
  apply List.ext_getElem (by omega)
  intro i h1 h2
  have e : a.getD i 0 = b.getD i 0 := by
    refine bit8_ext (getD_byte Ba i) (getD_byte Bb i) (fun j hj => ?_)
    have := h (8 * i + j) (by omega)
    unfold bitA at this
    rwa [show (8 * i + j) / 8 = i by omega, show (8 * i + j) % 8 = j by omega] at this
  rwa [getD_get h1, getD_get h2] at e
def clamp (bits i : Nat) : Nat := min 8 (bits - 8 * i)
def maskL (l : List Int) (bits : Nat) : List Int := (List.range 16).map fun i => maskB (l.getD i 0) (clamp bits i)
theorem maskL_len (l : List Int) (bits : Nat) : (maskL l bits).length = 16 := by simp [maskL]
theorem maskL_get (l : List Int) (bits : Nat) {i : Nat} (hi : i < 16) : (maskL l bits).getD i 0 = maskB (l.getD i 0) (clamp bits i) := by
  simp [maskL, List.getD_eq_getElem?_getD, List.getElem?_range hi]
theorem maskL_bytes {l : List Int} (h : Bytes l) (bits : Nat) : Bytes (maskL l bits) := by
  intro z hz
  obtain ⟨i, _, rfl⟩ := List.mem_map.1 hz
  exact maskB_byte (getD_byte h i) (by unfold clamp; omega)
theorem bitA_mask {l : List Int} (h : Bytes l) (bits : Nat) {k : Nat} (hk : k < 128) : bitA (maskL l bits) k = if k < bits then bitA l k else 0 := by
  unfold bitA
  rw [maskL_get l bits (show k / 8 < 16 by omega), maskB_bit (getD_byte h _) (by unfold clamp; omega) (by omega)]
  by_cases hb : k < bits
  · rw [if_pos hb, if_pos (by unfold clamp; omega)]
  · rw [if_neg hb, if_neg (by unfold clamp; omega)]
/-- the bits behind the first ones are zero -/
def zeroFrom (l : List Int) (bits : Nat) : Prop := ∀ k, k < 128 → bits ≤ k → bitA l k = 0
theorem mask_eq_self {l : List Int} (hl : l.length = 16) (h : Bytes l) (bits : Nat) : maskL l bits = l ↔ zeroFrom l bits := by
  constructor
  · intro e k hk hb
    have := bitA_mask h bits hk
    rw [e, if_neg (by omega)] at this
    exact this
  · intro hz
    refine bitA_ext (maskL_len _ _) hl (maskL_bytes h _) h (fun k hk => ?_)
    rw [bitA_mask h bits hk]
    split
    · rfl
    · exact (hz k hk (by omega)).symm
theorem zero_bytes (n : Nat) : Bytes (List.replicate n 0) := by
  intro z hz
  have := (List.mem_replicate.1 hz).2
  omega
theorem set_bytes {l : List Int} (h : Bytes l) (i : Nat) {v : Int} (hv : 0 ≤ v ∧ v ≤ 255) : Bytes (l.set i v) := by
  intro z hz
  rcases List.mem_or_eq_of_mem_set hz with h1 | rfl
  · exact h z h1
  · exact hv
end
section
open Go.RowKit

instance : DecidableEq S_Prefix := fun p q => decidable_of_iff (p.IP = q.IP ∧ p.Bits = q.Bits) (by obtain ⟨i, b⟩ := p; obtain ⟨j, c⟩ := q; simp)
def wfP (p : S_Prefix) : Prop := p.IP.length = 16 ∧ Bytes p.IP
instance (l : List Int) (b : Nat) : Decidable (zeroFrom l b) := by unfold zeroFrom; infer_instance
def vpB (p : S_Prefix) : Bool := decide (0 ≤ p.Bits ∧ p.Bits ≤ 128 ∧ zeroFrom p.IP p.Bits.toNat)
theorem vpB_iff {p : S_Prefix} : vpB p = true ↔ 0 ≤ p.Bits ∧ p.Bits ≤ 128 ∧ zeroFrom p.IP p.Bits.toNat := by simp [vpB]

theorem quo8 (k : Nat) (h : k < 128) : iquo .i64 (k : Int) 8 = ((k / 8 : Nat) : Int) := by
  unfold iquo
  rw [show (k : Int).tdiv 8 = ((k / 8 : Nat) : Int) from rfl, wi (by omega) (by omega)]
theorem sh7 (k : Nat) : IntKind.wrap .u64 (7 - IntKind.wrap .u64 (Int.tmod (k : Int) 8)) = 7 - ((k % 8 : Nat) : Int) := by
  rw [show Int.tmod (k : Int) 8 = ((k % 8 : Nat) : Int) from rfl, wu (x := ((k % 8 : Nat) : Int)) (by omega) (by omega), wu (by omega) (by omega)]
theorem bit_eq (l : List Int) {k : Nat} (h : k < 128) : F_ref04_bit l (k : Int) = some (bitA l k) := by
  unfold F_ref04_bit
  rw [quo8 k h, sh7 k, decT (by omega), decT (by omega)]
  rfl
theorem ref_vp {p : S_Prefix} : F_ref04_ValidPrefix p = some (vpB p) := by
  unfold F_ref04_ValidPrefix
  by_cases h1 : p.Bits < 0
  · rw [decT h1]
    simp [vpB]
    omega
  · rw [decF h1]
    by_cases h2 : p.Bits > 128
    · rw [decT h2]
      simp [vpB]
      omega
    · rw [decF h2]
      simp only [cond_false]
      obtain ⟨b, hb⟩ : ∃ b : Nat, p.Bits = (b : Int) := ⟨p.Bits.toNat, by omega⟩
      have hb128 : b ≤ 128 := by omega
      have e := loop_all (step := F_ref04_ValidPrefix_l1 p) (S := fun k => ((b + k : Nat) : Int)) (128 - b) (fun k => decide (bitA p.IP (b + k) = 0)) (rt := Sum.inl ()) (rf := Sum.inr false) (by
          intro k hk hp
          unfold F_ref04_ValidPrefix_l1
          rw [decT (by omega), bit_eq _ (by omega)]
          simp only [cond_true, Option.bind_some]
          have hp' := of_decide_eq_true hp
          rw [hp', wk _ (by omega)]
          rfl) (by
          intro k hk hp
          unfold F_ref04_ValidPrefix_l1
          rw [decT (by omega), bit_eq _ (by omega)]
          simp only [cond_true, Option.bind_some]
          have hp' := of_decide_eq_false hp
          rw [show (bitA p.IP (b + k) != 0) = true by simpa using hp']
          rfl) (by
          unfold F_ref04_ValidPrefix_l1
          rw [decF (by omega)]
          rfl)
      rw [Nat.add_zero] at e
      rw [hb, e]
      simp only [Option.bind_some]
      unfold vpB
      by_cases hz : zeroFrom p.IP b
      · rw [if_pos (by
          intro k hk
          exact decide_eq_true (hz (b + k) (by omega) (by omega)))]
        simp only [Sum.elim_inl]
        congr 1
        symm
        rw [decide_eq_true_iff, hb]
        exact ⟨by omega, by omega, by simpa using hz⟩
      · rw [if_neg (by
          intro hk
          apply hz
          intro k hk2 hbk
          have := hk (k - b) (by omega)
          rw [show b + (k - b) = k by omega] at this
          exact of_decide_eq_true this)]
        simp only [Sum.elim_inr]
        congr 1
        symm
        rw [decide_eq_false_iff_not, hb]
        rintro ⟨_, _, h3⟩
        exact hz (by simpa using h3)
theorem addr_mask (l : List Int) {b : Int} (h0 : 0 ≤ b) (h1 : b ≤ 128) : F_address_Mask l b = some ⟨maskL l b.toNat, b⟩ := by
  unfold F_address_Mask
  obtain ⟨n, rfl⟩ : ∃ n : Nat, b = (n : Int) := ⟨b.toNat, by omega⟩
  rw [if_neg (show ¬ ((n : Int) < 0) by omega), if_neg (show ¬ ((128 : Int) < (n : Int)) by omega)]
  have e := loop_run (step := F_address_Mask_l1 l) (S := fun k => ((k : Int), S_Prefix.mk ((List.range 16).map fun i => if i < k then maskB (l.getD i 0) (clamp n i) else 0) (n : Int))) 16 (r := ⟨maskL l n, n⟩) (by
    intro k hk
    unfold F_address_Mask_l1
    dsimp only
    have hcl : (if (8 : Int) < if IntKind.wrap .i64 ((n : Int) - IntKind.wrap .i64 (8 * (k : Int))) < 0 then 0 else IntKind.wrap .i64 ((n : Int) - IntKind.wrap .i64 (8 * (k : Int))) then 8 else if IntKind.wrap .i64 ((n : Int) - IntKind.wrap .i64 (8 * (k : Int))) < 0 then 0 else IntKind.wrap .i64 ((n : Int) - IntKind.wrap .i64 (8 * (k : Int)))) = ((clamp n k : Nat) : Int) := by
      rw [wi (x := 8 * (k : Int)) (by omega) (by omega), wi (x := (n : Int) - 8 * (k : Int)) (by omega) (by omega)]
      unfold clamp
      split <;> split at * <;> omega
    rw [hcl, decT (show (k : Int) < 16 by omega), decT (show (0 : Int) ≤ (k : Int) ∧ (k : Int) < 16 by omega), decT (show (0 : Int) ≤ ((clamp n k : Nat) : Int) by omega), wk k (by omega)]
    simp only [cond_true, Int.toNat_natCast]
    congr 3
    congr 1
    apply List.ext_getElem?
    intro i
    unfold setA
    rw [List.getElem?_map, List.getElem?_map]
    rcases Nat.lt_or_ge i 16 with hi | hi
    · rw [List.getElem?_range hi]
      simp only [Option.map_some]
      congr 1
      by_cases hik : i = k
      · subst hik
        rw [if_pos rfl, if_pos (by omega)]
        rfl
      · rw [if_neg hik]
        simp only [List.getD_eq_getElem?_getD, List.getElem?_map, List.getElem?_range hi, Option.map_some, Option.getD_some]
        by_cases h2 : i < k
        · rw [if_pos h2, if_pos (by omega)]
        · rw [if_neg h2, if_neg (by omega)]
    · rw [List.getElem?_eq_none (by simpa using hi)]
      rfl) (by
    unfold F_address_Mask_l1
    rw [decF (by dsimp only; omega)]
    simp only [cond_false]
    congr 3)
  have e0 : ((List.range 16).map fun i => if i < 0 then maskB (l.getD i 0) (clamp n i) else 0) = [0, 0, 0, 0, 0, 0, 0, 0, 0, 0, 0, 0, 0, 0, 0, 0] := by simp [List.range, List.range.loop]
  rw [e0] at e
  rw [show ((0 : Nat) : Int) = 0 from rfl] at e
  rw [e]
  rfl
theorem addr_vp {p : S_Prefix} (h : wfP p) : F_address_ValidPrefix p = some (vpB p) := by
  unfold F_address_ValidPrefix
  by_cases h0 : p.Bits ≥ 0
  · rw [decT h0]
    by_cases h1 : p.Bits ≤ 128
    · rw [decT h1, addr_mask p.IP h0 h1]
      simp only [cond_true, Option.bind_some]
      congr 1
      unfold vpB S_Prefix.eqb
      dsimp only
      rw [arrEq_eq (maskL_len _ _) h.1]
      rw [Bool.eq_iff_iff]
      simp only [Bool.and_eq_true, decide_eq_true_eq, beq_iff_eq, and_true, mask_eq_self h.1 h.2]
      constructor
      · rintro hz; exact ⟨h0, h1, hz⟩
      · rintro ⟨_, _, hz⟩; exact hz
    · rw [decF h1]
      simp [vpB]
      omega
  · rw [decF h0]
    simp [vpB]
    omega
/-- a prefix covers an address -/
def agree (l a : List Int) (b : Nat) : Prop := ∀ k, k < 128 → (k < b → bitA l k = bitA a k)
instance (l a : List Int) (b : Nat) : Decidable (agree l a b) := by unfold agree; infer_instance
theorem eqb_P {p q : S_Prefix} (hp : wfP p) (hq : wfP q) : S_Prefix.eqb p q = decide (p = q) := by
  unfold S_Prefix.eqb
  rw [arrEq_eq hp.1 hq.1, Bool.eq_iff_iff]
  obtain ⟨i, b⟩ := p
  obtain ⟨j, c⟩ := q
  simp
end
section
open Go.RowKit

def ad0 : List Int := [0, 0, 0, 0, 0, 0, 0, 0, 0, 0, 0, 0, 0, 0, 0, 0]
def p0 : S_Prefix := S_Prefix.mk ad0 0
def t0 : S_Destination := S_Destination.mk p0 p0 0
structure WfN (n : S_Notice) : Prop where
  seq : 0 ≤ n.Seq ∧ n.Seq ≤ 65535
  nb : 0 ≤ n.Neighbour ∧ n.Neighbour ≤ 18446744073709551615
  ro : 0 ≤ n.To.Router ∧ n.To.Router ≤ 18446744073709551615
  dst : wfP n.To.Dst
  src : wfP n.To.Src
theorem wfP0 : wfP p0 := ⟨rfl, by intro z hz; simp [p0, ad0] at hz; omega⟩
def toB (t : S_Destination) : Bool := vpB t.Dst && vpB t.Src && (t.Router != 0)
noncomputable def validN (n : S_Notice) : Bool :=
  bif n.Kind == 1 then S_Notice.eqb n (S_Notice.mk n.Kind n.Seq 0 0 t0 0)
  else bif n.Kind == 2 then S_Notice.eqb n (S_Notice.mk n.Kind 0 n.Metric n.Neighbour t0 0) && (n.Neighbour != 0) && decide (0 ≤ n.Metric ∧ n.Metric ≤ 65535)
  else bif n.Kind == 3 then S_Notice.eqb n (S_Notice.mk n.Kind n.Seq n.Metric 0 n.To 0) && toB n.To && decide (0 ≤ n.Metric ∧ n.Metric ≤ 65535)
  else bif n.Kind == 4 then S_Notice.eqb n (S_Notice.mk n.Kind 0 0 0 n.To 0) && (n.To.Router == 0) && vpB n.To.Dst && vpB n.To.Src
  else bif n.Kind == 5 then S_Notice.eqb n (S_Notice.mk n.Kind n.Seq 0 0 n.To n.Hops) && toB n.To && decide (1 ≤ n.Hops ∧ n.Hops ≤ 32)
  else false
theorem metric_p (x : Int) : F_metric_Valid x = some (decide (0 ≤ x ∧ x ≤ 65535)) := by
  unfold F_metric_Valid
  by_cases h : x ≥ 0 <;> by_cases h2 : x ≤ 65535 <;> simp [h, h2] <;> omega
theorem metric_r (x : Int) : F_ref24_Valid x = some (decide (0 ≤ x ∧ x ≤ 65535)) := metric_p x
theorem to_p {t : S_Destination} (h1 : wfP t.Dst) (h2 : wfP t.Src) : F_sources_ValidTo t = some (toB t) := by
  unfold F_sources_ValidTo toB
  rw [addr_vp h1, Option.bind_some, addr_vp h2]
  cases vpB t.Dst <;> cases vpB t.Src <;> rfl
theorem to_r {t : S_Destination} : F_ref26_ValidTo t = some (toB t) := by
  unfold F_ref26_ValidTo toB
  rw [ref_vp, Option.bind_some, ref_vp]
  cases vpB t.Dst <;> cases vpB t.Src <;> rfl
theorem hops_b (h : Int) : (bif decide (h ≥ 1) then some (decide (h ≤ 32)) else some false) = some (decide (1 ≤ h ∧ h ≤ 32)) := by
  by_cases h1 : h ≥ 1 <;> by_cases h2 : h ≤ 32 <;> simp [h1, h2] <;> omega
theorem valid_p {n : S_Notice} (w : WfN n) : F_messages_Valid n = some (validN n) := by
  unfold F_messages_Valid validN
  simp only [metric_p, to_p w.dst w.src, addr_vp w.dst, addr_vp w.src, Option.bind_some, hops_b]
  change (bif n.Kind == 1 then some (S_Notice.eqb n (S_Notice.mk n.Kind n.Seq 0 0 t0 0)) else bif n.Kind == 2 then bif S_Notice.eqb n (S_Notice.mk n.Kind 0 n.Metric n.Neighbour t0 0) then _ else _ else _) = _
  generalize S_Notice.eqb n (S_Notice.mk n.Kind n.Seq 0 0 t0 0) = b1
  generalize S_Notice.eqb n (S_Notice.mk n.Kind 0 n.Metric n.Neighbour t0 0) = b2
  generalize S_Notice.eqb n (S_Notice.mk n.Kind n.Seq n.Metric 0 n.To 0) = b3
  generalize S_Notice.eqb n (S_Notice.mk n.Kind 0 0 0 n.To 0) = b4
  generalize S_Notice.eqb n (S_Notice.mk n.Kind n.Seq 0 0 n.To n.Hops) = b5
  cases n.Kind == 1
  · cases n.Kind == 2
    · cases n.Kind == 3
      · cases n.Kind == 4
        · cases n.Kind == 5
          · rfl
          · cases b5 <;> cases toB n.To <;> simp
        · cases b4 <;> cases n.To.Router == 0 <;> cases vpB n.To.Dst <;> simp
      · cases b3 <;> cases toB n.To <;> simp
    · cases b2 <;> cases n.Neighbour != 0 <;> simp
  · rfl
theorem valid_r {n : S_Notice} : F_ref29_Valid n = some (validN n) := by
  unfold F_ref29_Valid validN
  simp only [metric_r, to_r, ref_vp, Option.bind_some, hops_b]
  change (bif n.Kind == 1 then some (S_Notice.eqb n (S_Notice.mk n.Kind n.Seq 0 0 t0 0)) else bif n.Kind == 2 then bif S_Notice.eqb n (S_Notice.mk n.Kind 0 n.Metric n.Neighbour t0 0) then _ else _ else _) = _
  generalize S_Notice.eqb n (S_Notice.mk n.Kind n.Seq 0 0 t0 0) = b1
  generalize S_Notice.eqb n (S_Notice.mk n.Kind 0 n.Metric n.Neighbour t0 0) = b2
  generalize S_Notice.eqb n (S_Notice.mk n.Kind n.Seq n.Metric 0 n.To 0) = b3
  generalize S_Notice.eqb n (S_Notice.mk n.Kind 0 0 0 n.To 0) = b4
  generalize S_Notice.eqb n (S_Notice.mk n.Kind n.Seq 0 0 n.To n.Hops) = b5
  cases n.Kind == 1
  · cases n.Kind == 2
    · cases n.Kind == 3
      · cases n.Kind == 4
        · cases n.Kind == 5
          · rfl
          · cases b5 <;> cases toB n.To <;> simp
        · cases b4 <;> cases n.To.Router == 0 <;> cases vpB n.To.Dst <;> simp
      · cases b3 <;> cases toB n.To <;> simp
    · cases b2 <;> cases n.Neighbour != 0 <;> simp
  · rfl
theorem eqb_T {a b : S_Destination} (h1 : wfP a.Dst) (h2 : wfP a.Src) (h3 : wfP b.Dst) (h4 : wfP b.Src) : S_Destination.eqb a b = true ↔ a = b := by
  unfold S_Destination.eqb
  rw [eqb_P h1 h3, eqb_P h2 h4]
  obtain ⟨d, s, r⟩ := a
  obtain ⟨d', s', r'⟩ := b
  simp
theorem eqb_N {a b : S_Notice} (ha : WfN a) (hb : WfN b) : S_Notice.eqb a b = true ↔ a = b := by
  unfold S_Notice.eqb
  have := eqb_T ha.dst ha.src hb.dst hb.src
  obtain ⟨k, s, m, n, t, h⟩ := a
  obtain ⟨k', s', m', n', t', h'⟩ := b
  simp only [Bool.and_true, Bool.and_eq_true, beq_iff_eq, this, S_Notice.mk.injEq]
/-- what a valid notice looks like -/
inductive GoodN : S_Notice → Prop where
  | hello (s : Int) (h : 0 ≤ s ∧ s ≤ 65535) : GoodN (S_Notice.mk 1 s 0 0 t0 0)
  | heard (m b : Int) (h : 0 ≤ m ∧ m ≤ 65535) (hb : 0 ≤ b ∧ b ≤ 18446744073709551615) (h0 : b ≠ 0) : GoodN (S_Notice.mk 2 0 m b t0 0)
  | update (s m : Int) (d c : S_Prefix) (r : Int) (hs : 0 ≤ s ∧ s ≤ 65535) (h : 0 ≤ m ∧ m ≤ 65535) (wd : wfP d) (wc : wfP c) (vd : vpB d = true) (vc : vpB c = true) (hr : 0 ≤ r ∧ r ≤ 18446744073709551615) (h0 : r ≠ 0) : GoodN (S_Notice.mk 3 s m 0 (S_Destination.mk d c r) 0)
  | route (d c : S_Prefix) (wd : wfP d) (wc : wfP c) (vd : vpB d = true) (vc : vpB c = true) : GoodN (S_Notice.mk 4 0 0 0 (S_Destination.mk d c 0) 0)
  | seqr (s h : Int) (d c : S_Prefix) (r : Int) (hs : 0 ≤ s ∧ s ≤ 65535) (hh : 1 ≤ h ∧ h ≤ 32) (wd : wfP d) (wc : wfP c) (vd : vpB d = true) (vc : vpB c = true) (hr : 0 ≤ r ∧ r ≤ 18446744073709551615) (h0 : r ≠ 0) : GoodN (S_Notice.mk 5 s 0 0 (S_Destination.mk d c r) h)
theorem eqb_rfl (n : S_Notice) (w : WfN n) : S_Notice.eqb n n = true := (eqb_N w w).2 rfl
theorem good_wf {n : S_Notice} (h : GoodN n) : WfN n := by
  cases h with
  | hello s h => exact ⟨h, ⟨by simp, by simp⟩, ⟨by simp [t0], by simp [t0]⟩, wfP0, wfP0⟩
  | heard m b h hb h0 => exact ⟨⟨by simp, by simp⟩, hb, ⟨by simp [t0], by simp [t0]⟩, wfP0, wfP0⟩
  | update s m d c r hs h wd wc vd vc hr h0 => exact ⟨hs, ⟨by simp, by simp⟩, hr, wd, wc⟩
  | route d c wd wc vd vc => exact ⟨⟨by simp, by simp⟩, ⟨by simp, by simp⟩, ⟨by simp, by simp⟩, wd, wc⟩
  | seqr s h d c r hs hh wd wc vd vc hr h0 => exact ⟨hs, ⟨by simp, by simp⟩, hr, wd, wc⟩
theorem good_valid {n : S_Notice} (h : GoodN n) : validN n = true := by
  have w := good_wf h
  unfold validN
  cases h with
  | hello s h => exact eqb_rfl _ w
  | heard m b h hb h0 =>
    have e := eqb_rfl _ w
    simp only [show ((2 : Int) == 1) = false from rfl, show ((2 : Int) == 2) = true from rfl, cond_false, cond_true, e, decT h, Bool.and_true]
    simp [h0]
  | update s m d c r hs h wd wc vd vc hr h0 =>
    have e := eqb_rfl _ w
    simp only [show ((3 : Int) == 1) = false from rfl, show ((3 : Int) == 2) = false from rfl, show ((3 : Int) == 3) = true from rfl, cond_false, cond_true, e, decT h, Bool.and_true, toB, vd, vc]
    simp [h0]
  | route d c wd wc vd vc =>
    have e := eqb_rfl _ w
    simp only [show ((4 : Int) == 1) = false from rfl, show ((4 : Int) == 2) = false from rfl, show ((4 : Int) == 3) = false from rfl, show ((4 : Int) == 4) = true from rfl, cond_false, cond_true, e, Bool.and_true, vd, vc]
    rfl
  | seqr s h d c r hs hh wd wc vd vc hr h0 =>
    have e := eqb_rfl _ w
    simp only [show ((5 : Int) == 1) = false from rfl, show ((5 : Int) == 2) = false from rfl, show ((5 : Int) == 3) = false from rfl, show ((5 : Int) == 4) = false from rfl, show ((5 : Int) == 5) = true from rfl, cond_false, cond_true, e, decT hh, Bool.and_true, toB, vd, vc]
    simp [h0]
theorem valid_good {n : S_Notice} (w : WfN n) (hv : validN n = true) : GoodN n := by
  unfold validN at hv
  have w0 : (0 : Int) ≤ 0 ∧ (0 : Int) ≤ 65535 := ⟨by decide, by decide⟩
  have w1 : (0 : Int) ≤ 0 ∧ (0 : Int) ≤ 18446744073709551615 := ⟨by decide, by decide⟩
  by_cases k1 : n.Kind = 1
  · rw [k1] at hv
    have e := (eqb_N w (b := S_Notice.mk 1 n.Seq 0 0 t0 0) ⟨w.seq, w1, w1, wfP0, wfP0⟩).1 hv
    rw [e]
    exact .hello _ w.seq
  by_cases k2 : n.Kind = 2
  · rw [k2] at hv
    simp only [show ((2 : Int) == 1) = false from rfl, show ((2 : Int) == 2) = true from rfl, cond_false, cond_true, Bool.and_eq_true, decide_eq_true_eq, bne_iff_ne, ne_eq] at hv
    have e := (eqb_N w (b := S_Notice.mk 2 0 n.Metric n.Neighbour t0 0) ⟨w0, w.nb, w1, wfP0, wfP0⟩).1 hv.1.1
    rw [e]
    exact .heard _ _ hv.2 w.nb hv.1.2
  by_cases k3 : n.Kind = 3
  · rw [k3] at hv
    simp only [show ((3 : Int) == 1) = false from rfl, show ((3 : Int) == 2) = false from rfl, show ((3 : Int) == 3) = true from rfl, cond_false, cond_true, Bool.and_eq_true, decide_eq_true_eq, toB, bne_iff_ne, ne_eq] at hv
    have e := (eqb_N w (b := S_Notice.mk 3 n.Seq n.Metric 0 n.To 0) ⟨w.seq, w1, w.ro, w.dst, w.src⟩).1 hv.1.1
    rw [e]
    exact .update _ _ _ _ _ w.seq hv.2 w.dst w.src hv.1.2.1.1 hv.1.2.1.2 w.ro hv.1.2.2
  by_cases k4 : n.Kind = 4
  · rw [k4] at hv
    simp only [show ((4 : Int) == 1) = false from rfl, show ((4 : Int) == 2) = false from rfl, show ((4 : Int) == 3) = false from rfl, show ((4 : Int) == 4) = true from rfl, cond_false, cond_true, Bool.and_eq_true, beq_iff_eq] at hv
    have e := (eqb_N w (b := S_Notice.mk 4 0 0 0 n.To 0) ⟨w0, w1, w.ro, w.dst, w.src⟩).1 hv.1.1.1
    have e2 : n.To = S_Destination.mk n.To.Dst n.To.Src 0 := by rw [← hv.1.1.2]
    rw [e, e2]
    exact .route _ _ w.dst w.src hv.1.2 hv.2
  by_cases k5 : n.Kind = 5
  · rw [k5] at hv
    simp only [show ((5 : Int) == 1) = false from rfl, show ((5 : Int) == 2) = false from rfl, show ((5 : Int) == 3) = false from rfl, show ((5 : Int) == 4) = false from rfl, show ((5 : Int) == 5) = true from rfl, cond_false, cond_true, Bool.and_eq_true, decide_eq_true_eq, toB, bne_iff_ne, ne_eq] at hv
    have e := (eqb_N w (b := S_Notice.mk 5 n.Seq 0 0 n.To n.Hops) ⟨w.seq, w1, w.ro, w.dst, w.src⟩).1 hv.1.1
    rw [e]
    exact .seqr _ _ _ _ _ w.seq hv.2 w.dst w.src hv.1.2.1.1 hv.1.2.1.2 w.ro hv.1.2.2
  · rw [beqF k1, beqF k2, beqF k3, beqF k4, beqF k5] at hv
    cases hv
def sz (b : Int) : Nat := ((b + 7) / 8).toNat
def pfx (p : S_Prefix) : List Int := p.IP.take (sz p.Bits)
def comm : List Int → List Int → Nat
  | x :: a, y :: b => if x = y then comm a b + 1 else 0
  | _, _ => 0
def el (k : Int) (b : List Int) : List Int := [k, (b.length : Int)] ++ b
def encN (r : Int) (d : List Int) (n : S_Notice) : List Int :=
  if n.Kind = 1 then el 1 (beB n.Seq 2)
  else if n.Kind = 2 then el 2 (beB n.Neighbour 8 ++ beB n.Metric 2)
  else if n.Kind = 3 then (if n.To.Router ≠ r then el 6 (beB n.To.Router 8) else []) ++ el 3 ([(comm (pfx n.To.Dst) d : Int), n.To.Dst.Bits, n.To.Src.Bits] ++ beB n.Seq 2 ++ beB n.Metric 2 ++ (pfx n.To.Dst).drop (comm (pfx n.To.Dst) d) ++ pfx n.To.Src)
  else if n.Kind = 5 then el 5 ([n.To.Dst.Bits, n.To.Src.Bits] ++ beB n.Seq 2 ++ [n.Hops] ++ beB n.To.Router 8 ++ pfx n.To.Dst ++ pfx n.To.Src)
  else el 4 ([n.To.Dst.Bits, n.To.Src.Bits] ++ pfx n.To.Dst ++ pfx n.To.Src)
def nxR (r : Int) (n : S_Notice) : Int := if n.Kind = 3 then n.To.Router else r
def nxD (d : List Int) (n : S_Notice) : List Int := if n.Kind = 3 then n.To.Dst.IP else d
def encL (r : Int) (d : List Int) : List S_Notice → List Int
  | [] => []
  | n :: l => encN r d n ++ encL (nxR r n) (nxD d n) l
theorem sz_le {b : Int} (h0 : 0 ≤ b) (h1 : b ≤ 128) : sz b ≤ 16 := by unfold sz; omega
theorem sz_eq {b : Int} (h0 : 0 ≤ b) (h1 : b ≤ 255) : iquo .i64 (IntKind.wrap .i64 (b + 7)) 8 = (sz b : Int) := by
  rw [wi (by omega) (by omega)]
  unfold iquo sz
  rw [Int.tdiv_eq_ediv_of_nonneg (by omega), wi (by omega) (by omega)]
  omega
theorem size_p {b : Int} (h0 : 0 ≤ b) (h1 : b ≤ 255) : F_messages_size b = some (sz b : Int) := by unfold F_messages_size; rw [sz_eq h0 h1]
theorem size_r {b : Int} (h0 : 0 ≤ b) (h1 : b ≤ 255) : F_ref29_size b = some (sz b : Int) := by unfold F_ref29_size; rw [sz_eq h0 h1]
theorem pfx_len {p : S_Prefix} (w : wfP p) (v : vpB p = true) : (pfx p).length = sz p.Bits := by
  have := vpB_iff.1 v
  unfold pfx
  rw [List.length_take, w.1, Nat.min_eq_left (sz_le this.1 this.2.1)]
theorem pfx_le {p : S_Prefix} (w : wfP p) : (pfx p).length ≤ 16 := by
  unfold pfx
  rw [List.length_take, w.1]
  omega
theorem pfx_ok {p : S_Prefix} (w : wfP p) : okB (pfx p) := fun z hz => w.2 z (List.mem_of_mem_take hz)
theorem pb_p {p : S_Prefix} (w : wfP p) (v : vpB p = true) : F_messages_prefixBytes p = some (pfx p) := by
  have hv := vpB_iff.1 v
  have := sz_le hv.1 hv.2.1
  unfold F_messages_prefixBytes
  rw [size_p hv.1 (by omega), Option.bind_some, arrL_id w.1, subO_some (by omega) (by omega) (by rw [w.1]; omega)]
  simp [pfx]
theorem comm_le : ∀ (a d : List Int), comm a d ≤ a.length
  | [], _ => by simp [comm]
  | _ :: _, [] => by simp [comm]
  | x :: a, y :: d => by
    unfold comm
    have := comm_le a d
    split <;> simp <;> omega
theorem comm_take : ∀ (a d : List Int), a.take (comm a d) = d.take (comm a d)
  | [], _ => by simp [comm]
  | _ :: _, [] => by simp [comm]
  | x :: a, y :: d => by
    unfold comm
    have := comm_take a d
    split
    · rename_i h; subst h; simp [this]
    · simp
theorem comm_iff : ∀ (a d : List Int) (k : Nat), k ≤ a.length → a.length ≤ d.length → (∀ j, j < k → a.getD j 0 = d.getD j 0) → (k < a.length → a.getD k 0 ≠ d.getD k 0) → comm a d = k
  | [], _, k, h, _, _, _ => by simp [comm] at *; omega
  | x :: a, [], k, _, h, _, _ => by simp at h
  | x :: a, y :: d, k, hk, hl, h1, h2 => by
    unfold comm
    cases k with
    | zero =>
      have := h2 (by simp)
      simp at this
      rw [if_neg this]
    | succ k =>
      have := h1 0 (by omega)
      simp at this
      rw [if_pos this, comm_iff a d k (by simp at hk; omega) (by simpa using hl) (fun j hj => by simpa using h1 (j + 1) (by omega)) (fun h => by simpa using h2 (by simp; omega))]
end
section
open Go.RowKit

theorem el_len (k : Int) (b : List Int) : (el k b).length = b.length + 2 := by simp [el]
theorem encN_len (r : Int) (d : List Int) {n : S_Notice} (g : GoodN n) : (encN r d n).length ≤ 51 := by
  have w := good_wf g
  have h1 := pfx_le w.dst
  have h2 := pfx_le w.src
  have b2 := beB_len n.Seq 2
  have b8 := beB_len n.To.Router 8
  have n8 := beB_len n.Neighbour 8
  have m2 := beB_len n.Metric 2
  unfold encN
  split
  · simp only [el_len]; omega
  split
  · simp only [el_len, List.length_append]; omega
  split
  · split <;> simp only [el_len, List.length_append, List.length_cons, List.length_nil, List.length_drop] <;> omega
  split <;> simp only [el_len, List.length_append, List.length_cons, List.length_nil] <;> omega
theorem wlen {a : List Int} (h : a.length ≤ 255) : IntKind.wrap .u8 (a.length : Int) = (a.length : Int) := wu8 (by omega) (by omega)
theorem el_p {s : S_messages_state} (hs : s.elements.length ≤ 1000000) (k : Int) {b : List Int} (hb : b.length ≤ 255) : F_messages_state_element_H00 s k b = some (S_messages_state.mk (s.elements ++ el k b) s.router s.dst) := by
  unfold F_messages_state_element_H00
  simp only [Cut.app]
  rw [appO_some (by simp; omega) (by simp; omega), Option.bind_some, appO_some (by simp; omega) (by simp; omega), Option.bind_some, wlen hb]
  simp [el]
theorem el_r {a : List Int} (hs : a.length ≤ 1000000) (k : Int) {b : List Int} (hb : b.length ≤ 255) : F_ref29_element_G0 a k b = some (a ++ el k b) := by
  unfold F_ref29_element_G0
  simp only [Cut.app]
  rw [appO_some (by simp; omega) (by simp; omega), Option.bind_some, appO_some (by simp; omega) (by simp; omega), Option.bind_some, wlen hb]
  simp [el]
theorem vb {p : S_Prefix} (v : vpB p = true) : 0 ≤ p.Bits ∧ p.Bits ≤ 128 := ⟨(vpB_iff.1 v).1, (vpB_iff.1 v).2.1⟩
theorem part_r {p : S_Prefix} (w : wfP p) (v : vpB p = true) {k : Nat} (hk : k ≤ (pfx p).length) : F_ref29_part p k = some ((pfx p).drop k) := by
  have hv := vb v
  have hl := pfx_len w v
  have h16 := sz_le hv.1 hv.2
  unfold F_ref29_part
  have hl' := loop_run (step := F_ref29_part_l1 p) (S := fun i => (((pfx p).drop k).take i, ((k + i : Nat) : Int))) ((pfx p).length - k) (r := (pfx p).drop k) (fun i hi => by
    unfold F_ref29_part_l1
    rw [size_r hv.1 (by omega), Option.bind_some]
    dsimp only
    rw [decT (by omega), decT (by omega)]
    simp only [cond_true, Cut.app]
    have e : p.IP.getD (Int.toNat ((k + i : Nat) : Int)) 0 = ((pfx p).drop k)[i]'(by rw [List.length_drop]; exact hi) := by
      rw [Int.toNat_natCast, getD_get (by rw [w.1]; omega)]
      simp [pfx]
    rw [e, appO_some (by simp; omega) (by simp; omega), Option.bind_some, wk (k + i) (by omega), ← List.take_append_getElem (by rw [List.length_drop]; exact hi)]
    rfl) (by
    unfold F_ref29_part_l1
    rw [size_r hv.1 (by omega), Option.bind_some]
    dsimp only
    rw [decF (by omega), List.take_of_length_le (by rw [List.length_drop]; omega)]
    rfl)
  have hl2 : loopO (F_ref29_part_l1 p) (([] : List Int), (k : Int)) = some ((pfx p).drop k) := hl'
  rw [hl2]
  rfl
theorem comm_p {a d : List Int} (h : a.length ≤ 16) (hd : d.length = 16) (s : S_messages_state) (hs : s.dst = d) : loopO (F_messages_state_update_H00_l2 a s) 0 = some (comm a d : Int) := by
  have hl := loop_first (step := F_messages_state_update_H00_l2 a s) (S := fun k => (k : Int)) a.length (fun k => a.getD k 0 == d.getD k 0) (fun k => (k : Int)) (re := (a.length : Int)) (fun k hk hp => by
    unfold F_messages_state_update_H00_l2
    rw [decT (by omega), idx_lt hk, decT (by omega), hs, Int.toNat_natCast]
    rw [getD_get hk] at hp
    simp only [cond_true, Option.bind_some, hp, wk k (by omega)]) (fun k hk hp => by
    unfold F_messages_state_update_H00_l2
    rw [decT (by omega), idx_lt hk, decT (by omega), hs, Int.toNat_natCast]
    rw [getD_get hk] at hp
    simp only [cond_true, Option.bind_some, hp, cond_false]) (by
    unfold F_messages_state_update_H00_l2
    rw [decF (by omega)]
    rfl)
  simp only [Int.natCast_zero] at hl
  rcases hl with ⟨k, hk, hp, hj, e⟩ | ⟨hj, e⟩
  · rw [e, comm_iff a d k (by omega) (by omega) (fun j hjk => by simpa using hj j hjk) (fun _ => by simpa using hp)]
  · rw [e, comm_iff a d a.length (by omega) (by omega) (fun j hjk => by simpa using hj j hjk) (fun h => absurd h (by omega))]
theorem comm_r {n : S_Notice} (w : wfP n.To.Dst) (v : vpB n.To.Dst = true) (s : (List Int) × Int × Int × (List Int)) (hd : s.2.2.2.length = 16) : loopO (F_ref29_Body_l4 n s) 0 = some (comm (pfx n.To.Dst) s.2.2.2 : Int) := by
  have hv := vb v
  have hl := pfx_len w v
  have h16 := sz_le hv.1 hv.2
  have key : ∀ k, k < (pfx n.To.Dst).length → n.To.Dst.IP.getD k 0 = (pfx n.To.Dst).getD k 0 := fun k hk => by
    rw [getD_get hk, getD_get (by rw [w.1]; omega)]
    simp [pfx]
  have hl := loop_first (step := F_ref29_Body_l4 n s) (S := fun k => (k : Int)) (pfx n.To.Dst).length (fun k => (pfx n.To.Dst).getD k 0 == s.2.2.2.getD k 0) (fun k => (k : Int)) (re := ((pfx n.To.Dst).length : Int)) (fun k hk hp => by
    unfold F_ref29_Body_l4
    rw [size_r hv.1 (by omega), Option.bind_some, decT (by omega), decT (by omega), Int.toNat_natCast, key k hk]
    simp only [cond_true, hp, wk k (by omega)]) (fun k hk hp => by
    unfold F_ref29_Body_l4
    rw [size_r hv.1 (by omega), Option.bind_some, decT (by omega), decT (by omega), Int.toNat_natCast, key k hk]
    simp only [cond_true, hp, cond_false]) (by
    unfold F_ref29_Body_l4
    rw [size_r hv.1 (by omega), Option.bind_some, decF (by omega)]
    rfl)
  simp only [Int.natCast_zero] at hl
  have c := pfx_le w
  rcases hl with ⟨k, hk, hp, hj, e⟩ | ⟨hj, e⟩
  · rw [e, comm_iff _ s.2.2.2 k (by omega) (by omega) (fun j hjk => by simpa using hj j hjk) (fun _ => by simpa using hp)]
  · rw [e, comm_iff _ s.2.2.2 (pfx n.To.Dst).length (by omega) (by omega) (fun j hjk => by simpa using hj j hjk) (fun h => absurd h (by omega))]
theorem appb {a b : List Int} (ha : a.length ≤ 1000000000) (hb : b.length ≤ 1000000000) : appO 1 a b = some (a ++ b) := appO_some (by omega) (by omega)
theorem not_p {n : S_Notice} (g : GoodN n) {s : S_messages_state} (hs : s.elements.length ≤ 900000) (hd : s.dst.length = 16) : F_messages_state_notice_H00 s n = some (S_messages_state.mk (s.elements ++ encN s.router s.dst n) (nxR s.router n) (nxD s.dst n)) := by
  have w := good_wf g
  unfold F_messages_state_notice_H00
  cases g with
  | hello q h =>
    simp only [show ((1 : Int) == 1) = true from rfl, cond_true]
    rw [show (2 : Int) = ((2 : Nat) : Int) from rfl, wu h.1 (by omega), octets_append _ _ _ (by omega) (by simp), Option.bind_some, List.nil_append, el_p (by omega) 1 (by rw [beB_len]; omega)]
    rfl
  | heard m b h hb h0 =>
    simp only [show ((2 : Int) == 1) = false from rfl, show ((2 : Int) == 2) = true from rfl, cond_false, cond_true]
    rw [show (8 : Int) = ((8 : Nat) : Int) from rfl, octets_append _ _ _ (by omega) (by simp), Option.bind_some, List.nil_append, wu h.1 (by omega), show (2 : Int) = ((2 : Nat) : Int) from rfl, octets_append _ _ _ (by omega) (by rw [beB_len]; omega), Option.bind_some, el_p (by omega) _ (by rw [List.length_append, beB_len, beB_len]; omega)]
    rfl
  | update q m d c r hq h wd wc vd vc hr h0 =>
    simp only [show ((3 : Int) == 1) = false from rfl, show ((3 : Int) == 2) = false from rfl, show ((3 : Int) == 3) = true from rfl, cond_false, cond_true]
    have c1 := comm_le (pfx d) s.dst
    have c2 := pfx_le wd
    have c3 := pfx_le wc
    have core : ∀ v1 : S_messages_state, v1.elements.length ≤ 950000 → v1.dst = s.dst → F_messages_state_update_H00_j1 (S_Notice.mk 3 q m 0 (S_Destination.mk d c r) 0) v1 = some (S_messages_state.mk (v1.elements ++ el 3 ([(comm (pfx d) s.dst : Int), d.Bits, c.Bits] ++ beB q 2 ++ beB m 2 ++ (pfx d).drop (comm (pfx d) s.dst) ++ pfx c)) v1.router d.IP) := by
      intro v1 he hdst
      unfold F_messages_state_update_H00_j1
      dsimp only
      simp only [pb_p wd vd, pb_p wc vc, Option.bind_some, comm_p c2 hd v1 hdst, Cut.app]
      rw [wu hq.1 (by omega), wu h.1 (by omega), wu8 (by omega) (by omega), wu8 (vb vd).1 (by have := (vb vd).2; omega), wu8 (vb vc).1 (by have := (vb vc).2; omega), show (2 : Int) = ((2 : Nat) : Int) from rfl, octets_append _ _ _ (by omega) (by simp), Option.bind_some, octets_append _ _ _ (by omega) (by simp [beB_len]), Option.bind_some, subO_some (by omega) (by omega) (by omega), Option.bind_some]
      have e2 : ((pfx d).take (((pfx d).length : Nat) : Int).toNat).drop ((comm (pfx d) s.dst : Nat) : Int).toNat = (pfx d).drop (comm (pfx d) s.dst) := by simp
      rw [e2, appb (by simp [beB_len]) (by simp; omega), Option.bind_some, appb (by simp [beB_len]; omega) (by omega), Option.bind_some, el_p (by dsimp only; omega) 3 (by simp [beB_len]; omega)]
      rfl
    unfold F_messages_state_update_H00
    dsimp only
    by_cases hrr : r = s.router
    · rw [show (r != s.router) = false by simp [hrr], cond_false, core s (by omega) rfl]
      simp only [encN, nxR, nxD, show ¬ ((3 : Int) = 1) by omega, show ¬ ((3 : Int) = 2) by omega, if_true, if_false, hrr, ne_eq, not_true, List.nil_append, Option.bind_some]
    · rw [show (r != s.router) = true by simp [hrr], cond_true, show (8 : Int) = ((8 : Nat) : Int) from rfl, octets_append _ _ _ (by omega) (by simp), Option.bind_some, List.nil_append, el_p (by omega) 6 (by rw [beB_len]; omega), Option.bind_some]
      dsimp only
      rw [core (S_messages_state.mk (s.elements ++ el 6 (beB r 8)) r s.dst) (by dsimp only; rw [List.length_append, el_len, beB_len]; omega) rfl]
      simp only [encN, nxR, nxD, show ¬ ((3 : Int) = 1) by omega, show ¬ ((3 : Int) = 2) by omega, if_true, if_false, ne_eq, hrr, not_false_eq_true, List.append_assoc, Option.bind_some]
  | route d c wd wc vd vc =>
    simp only [show ((4 : Int) == 1) = false from rfl, show ((4 : Int) == 2) = false from rfl, show ((4 : Int) == 3) = false from rfl, show ((4 : Int) == 5) = false from rfl, cond_false]
    have c2 := pfx_le wd
    have c3 := pfx_le wc
    unfold F_messages_state_notice_H00_j1
    dsimp only
    simp only [pb_p wd vd, pb_p wc vc, Option.bind_some, Cut.app]
    rw [wu8 (vb vd).1 (by have := (vb vd).2; omega), wu8 (vb vc).1 (by have := (vb vc).2; omega), appb (by simp) (by omega), Option.bind_some, appb (by simp; omega) (by omega), Option.bind_some, el_p (by omega) 4 (by simp; omega)]
    rfl
  | seqr q h d c r hq hh wd wc vd vc hr h0 =>
    simp only [show ((5 : Int) == 1) = false from rfl, show ((5 : Int) == 2) = false from rfl, show ((5 : Int) == 3) = false from rfl, show ((5 : Int) == 5) = true from rfl, cond_false, cond_true]
    have c2 := pfx_le wd
    have c3 := pfx_le wc
    rw [wu hq.1 (by omega), wu8 (vb vd).1 (by have := (vb vd).2; omega), wu8 (vb vc).1 (by have := (vb vc).2; omega), wu8 (by omega) (by omega), show (2 : Int) = ((2 : Nat) : Int) from rfl, octets_append _ _ _ (by omega) (by simp), Option.bind_some]
    simp only [Cut.app]
    rw [appb (by simp [beB_len]) (by simp), Option.bind_some, show (8 : Int) = ((8 : Nat) : Int) from rfl, octets_append _ _ _ (by omega) (by simp [beB_len]), Option.bind_some]
    unfold F_messages_state_notice_H00_j1
    dsimp only
    simp only [pb_p wd vd, pb_p wc vc, Option.bind_some, Cut.app]
    rw [appb (by simp [beB_len]) (by omega), Option.bind_some, appb (by simp [beB_len]; omega) (by omega), Option.bind_some, el_p (by omega) 5 (by simp [beB_len]; omega)]
    rfl
theorem body_step {l : List S_Notice} {i : Nat} (hi : i < l.length) (g : GoodN l[i]) (hn : l.length ≤ 10000) {out : List Int} (ho : out.length ≤ 900000) (r : Int) {d : List Int} (hd : d.length = 16) :
    F_ref29_Body_l1 l (out, r, (i : Int), d) = some (.inl (out ++ encN r d l[i], nxR r l[i], ((i + 1 : Nat) : Int), nxD d l[i])) := by
  unfold F_ref29_Body_l1
  dsimp only
  rw [decT (by omega), idx_lt hi]
  simp only [cond_true, Option.bind_some]
  have wi1 := wk i (by omega)
  generalize l[i] = n at *
  have w := good_wf g
  cases g with
  | hello q h =>
    simp only [show ((1 : Int) == 1) = true from rfl, cond_true]
    rw [show (2 : Int) = ((2 : Nat) : Int) from rfl, wu h.1 (by omega), put_n _ _ (by omega), Option.bind_some, el_r (by omega) 1 (by rw [beB_len]; omega), Option.bind_some]
    unfold F_ref29_Body_j2
    dsimp only
    rw [wi1]
    rfl
  | heard m b h hb h0 =>
    simp only [show ((2 : Int) == 1) = false from rfl, show ((2 : Int) == 2) = true from rfl, cond_false, cond_true]
    rw [show (8 : Int) = ((8 : Nat) : Int) from rfl, put_n _ _ (by omega), Option.bind_some, wu h.1 (by omega), show (2 : Int) = ((2 : Nat) : Int) from rfl, put_g _ _ _ (by omega) (by rw [beB_len]; omega), Option.bind_some, el_r (by omega) _ (by rw [List.length_append, beB_len, beB_len]; omega), Option.bind_some]
    unfold F_ref29_Body_j2
    dsimp only
    rw [wi1]
    rfl
  | update q m p c r' hq h wd wc vd vc hr h0 =>
    simp only [show ((3 : Int) == 1) = false from rfl, show ((3 : Int) == 2) = false from rfl, show ((3 : Int) == 3) = true from rfl, cond_false, cond_true]
    have c1 := comm_le (pfx p) d
    have c2 := pfx_le wd
    have c3 := pfx_le wc
    have core : ∀ v15 : (List Int) × Int, v15.1.length ≤ 950000 → F_ref29_Body_j3 (S_Notice.mk 3 q m 0 (S_Destination.mk p c r') 0) (out, r, (i : Int), d) v15 = some (.inl (v15.1 ++ el 3 ([(comm (pfx p) d : Int), p.Bits, c.Bits] ++ beB q 2 ++ beB m 2 ++ (pfx p).drop (comm (pfx p) d) ++ pfx c), v15.2, ((i + 1 : Nat) : Int), p.IP)) := by
      intro v15 he
      unfold F_ref29_Body_j3
      rw [comm_r (n := S_Notice.mk 3 q m 0 (S_Destination.mk p c r') 0) wd vd (out, r, (i : Int), d) hd]
      dsimp only
      simp only [Option.bind_some, Cut.app]
      rw [wu hq.1 (by omega), wu h.1 (by omega), wu8 (by omega) (by omega), wu8 (vb vd).1 (by have := (vb vd).2; omega), wu8 (vb vc).1 (by have := (vb vc).2; omega), appb (by simp) (by simp), Option.bind_some, show (2 : Int) = ((2 : Nat) : Int) from rfl, put_g _ _ _ (by omega) (by simp), Option.bind_some, put_g _ _ _ (by omega) (by simp [beB_len]), Option.bind_some, part_r wd vd c1, Option.bind_some, appb (by simp [beB_len]) (by simp; omega), Option.bind_some, show (0 : Int) = ((0 : Nat) : Int) from rfl, part_r wc vc (by omega), Option.bind_some, appb (by simp [beB_len]; omega) (by simp; omega), Option.bind_some, el_r (by omega) 3 (by simp [beB_len]; omega), Option.bind_some]
      unfold F_ref29_Body_j2
      dsimp only
      rw [wi1]
      rfl
    by_cases hrr : r' = r
    · rw [show (r' != r) = false by simp [hrr], cond_false, core (out, r) (by dsimp only; omega)]
      simp only [encN, nxR, nxD, show ¬ ((3 : Int) = 1) by omega, show ¬ ((3 : Int) = 2) by omega, if_true, if_false, hrr, ne_eq, not_true, List.nil_append]
    · rw [show (r' != r) = true by simp [hrr], cond_true, show (8 : Int) = ((8 : Nat) : Int) from rfl, put_n _ _ (by omega), Option.bind_some, el_r (by omega) 6 (by rw [beB_len]; omega), Option.bind_some]
      rw [core _ (by dsimp only; rw [List.length_append, el_len, beB_len]; omega)]
      simp only [encN, nxR, nxD, show ¬ ((3 : Int) = 1) by omega, show ¬ ((3 : Int) = 2) by omega, if_true, if_false, ne_eq, hrr, not_false_eq_true, List.append_assoc]
  | route p c wd wc vd vc =>
    simp only [show ((4 : Int) == 1) = false from rfl, show ((4 : Int) == 2) = false from rfl, show ((4 : Int) == 3) = false from rfl, show ((4 : Int) == 4) = true from rfl, cond_false, cond_true]
    have c2 := pfx_le wd
    have c3 := pfx_le wc
    simp only [Cut.app]
    rw [wu8 (vb vd).1 (by have := (vb vd).2; omega), wu8 (vb vc).1 (by have := (vb vc).2; omega), appb (by simp) (by simp), Option.bind_some, show (0 : Int) = ((0 : Nat) : Int) from rfl, part_r wd vd (by omega), Option.bind_some, appb (by simp) (by simp; omega), Option.bind_some, part_r wc vc (by omega), Option.bind_some, appb (by simp; omega) (by simp; omega), Option.bind_some, el_r (by omega) 4 (by simp; omega), Option.bind_some]
    unfold F_ref29_Body_j2
    dsimp only
    rw [wi1]
    rfl
  | seqr q h p c r' hq hh wd wc vd vc hr h0 =>
    simp only [show ((5 : Int) == 1) = false from rfl, show ((5 : Int) == 2) = false from rfl, show ((5 : Int) == 3) = false from rfl, show ((5 : Int) == 4) = false from rfl, show ((5 : Int) == 5) = true from rfl, cond_false, cond_true]
    have c2 := pfx_le wd
    have c3 := pfx_le wc
    simp only [Cut.app]
    rw [wu hq.1 (by omega), wu8 (vb vd).1 (by have := (vb vd).2; omega), wu8 (vb vc).1 (by have := (vb vc).2; omega), wu8 (by omega) (by omega), appb (by simp) (by simp), Option.bind_some, show (2 : Int) = ((2 : Nat) : Int) from rfl, put_g _ _ _ (by omega) (by simp), Option.bind_some, appb (by simp [beB_len]) (by simp), Option.bind_some, show (8 : Int) = ((8 : Nat) : Int) from rfl, put_g _ _ _ (by omega) (by simp [beB_len]), Option.bind_some, show (0 : Int) = ((0 : Nat) : Int) from rfl, part_r wd vd (by omega), Option.bind_some, appb (by simp [beB_len]) (by simp; omega), Option.bind_some, part_r wc vc (by omega), Option.bind_some, appb (by simp [beB_len]; omega) (by simp; omega), Option.bind_some, el_r (by omega) 5 (by simp [beB_len]; omega), Option.bind_some]
    unfold F_ref29_Body_j2
    dsimp only
    rw [wi1]
    rfl
end
section
open Go.RowKit

theorem encL_append (r : Int) (d : List Int) : ∀ a b : List S_Notice, encL r d (a ++ b) = encL r d a ++ encL (a.foldl nxR r) (a.foldl nxD d) b
  | [], b => rfl
  | n :: a, b => by simp only [List.cons_append, encL, List.foldl_cons, encL_append (nxR r n) (nxD d n) a b, List.append_assoc]
theorem encL_len (r : Int) (d : List Int) : ∀ l : List S_Notice, (∀ n ∈ l, GoodN n) → (encL r d l).length ≤ 51 * l.length
  | [], _ => by simp [encL]
  | n :: l, h => by
    have h1 := encN_len r d (h n (by simp))
    have h2 := encL_len (nxR r n) (nxD d n) l (fun m hm => h m (by simp [hm]))
    simp only [encL, List.length_append, List.length_cons]
    omega
theorem nxD_len {d : List Int} (hd : d.length = 16) {n : S_Notice} (w : WfN n) : (nxD d n).length = 16 := by
  unfold nxD
  split
  · exact w.dst.1
  · exact hd
theorem foldD_len : ∀ (l : List S_Notice) {d : List Int}, d.length = 16 → (∀ n ∈ l, WfN n) → (l.foldl nxD d).length = 16
  | [], _, h, _ => h
  | n :: l, _, h, w => foldD_len l (nxD_len h (w n (by simp))) (fun m hm => w m (by simp [hm]))
def stP (l : List S_Notice) (k : Nat) : S_messages_state := S_messages_state.mk (encL 0 ad0 (l.take k)) ((l.take k).foldl nxR 0) ((l.take k).foldl nxD ad0)
theorem take_good {l : List S_Notice} (g : ∀ n ∈ l, GoodN n) (k : Nat) : ∀ n ∈ l.take k, GoodN n := fun n hn => g n (List.mem_of_mem_take hn)
theorem stP_len {l : List S_Notice} (g : ∀ n ∈ l, GoodN n) (k : Nat) : (stP l k).elements.length ≤ 51 * k := by
  have := encL_len 0 ad0 (l.take k) (take_good g k)
  have h2 : (l.take k).length ≤ k := by rw [List.length_take]; omega
  unfold stP
  dsimp only
  omega
theorem stP_dst {l : List S_Notice} (g : ∀ n ∈ l, GoodN n) (k : Nat) : (stP l k).dst.length = 16 := foldD_len _ rfl fun n hn => good_wf (take_good g k n hn)
theorem take_succ' {α : Type} {l : List α} {k : Nat} (hk : k < l.length) : l.take (k + 1) = l.take k ++ [l[k]] := (List.take_append_getElem hk).symm
theorem stP_next {l : List S_Notice} {k : Nat} (hk : k < l.length) : stP l (k + 1) = S_messages_state.mk ((stP l k).elements ++ encN (stP l k).router (stP l k).dst l[k]) (nxR (stP l k).router l[k]) (nxD (stP l k).dst l[k]) := by
  unfold stP
  rw [take_succ' hk, encL_append, List.foldl_append, List.foldl_append]
  simp [encL]
theorem not_k {l : List S_Notice} (g : ∀ n ∈ l, GoodN n) {k : Nat} (hk : k < l.length) (hn : k ≤ 10000) : F_messages_state_notice_H00 (stP l k) l[k] = some (stP l (k + 1)) := by
  rw [not_p (g _ (List.getElem_mem hk)) (by have := stP_len g k; omega) (stP_dst g k), stP_next hk]
def pk (at_ : Int) (l : List S_Notice) : List Int := [42, 1] ++ beB at_ 5 ++ beB ((encL 0 ad0 l).length : Int) 2 ++ encL 0 ad0 l
theorem pk_len (at_ : Int) (l : List S_Notice) : (pk at_ l).length = (encL 0 ad0 l).length + 9 := by
  simp [pk, beB_len]
  omega
theorem packet_p {s : S_messages_state} (hs : s.elements.length ≤ 1000000) {at_ : Int} (h0 : 0 ≤ at_) (h1 : at_ < 1099511627776) : F_messages_state_packet s at_ = some ([42, 1] ++ beB at_ 5 ++ beB (s.elements.length : Int) 2 ++ s.elements) := by
  unfold F_messages_state_packet
  rw [wu h0 (by omega), show (5 : Int) = ((5 : Nat) : Int) from rfl, octets_append _ _ _ (by omega) (by simp), Option.bind_some, wu (by omega) (by omega), show (2 : Int) = ((2 : Nat) : Int) from rfl, octets_append _ _ _ (by omega) (by simp [beB_len]), Option.bind_some]
  simp only [Cut.app]
  rw [appb (by simp [beB_len]) (by omega)]
  rfl
noncomputable def encS (at_ : Int) (l : List S_Notice) : List Int × Int :=
  if l.length > 64 then ([], 3) else if l.all validN = false then ([], 1) else if at_ < 0 ∨ at_ ≥ 1099511627776 then ([], 2) else (pk at_ l, 0)
theorem all_p {l : List S_Notice} (w : ∀ n ∈ l, WfN n) (hl : l.length ≤ 4611686018427387904) : F_messages_allValid l = some (l.all validN) := by
  unfold F_messages_allValid
  have h := loop_all (step := F_messages_allValid_l1 l) (S := fun k => (k : Int)) l.length (fun k => (l[k]?.map validN).getD true) (rt := Sum.inl ()) (rf := Sum.inr false) (fun k hk hp => by
    unfold F_messages_allValid_l1
    rw [decT (by omega), idx_lt hk]
    rw [List.getElem?_eq_getElem hk] at hp
    simp only [Option.map_some, Option.getD_some] at hp
    simp only [cond_true, Option.bind_some, valid_p (w _ (List.getElem_mem hk)), hp, wk k (by omega)]) (fun k hk hp => by
    unfold F_messages_allValid_l1
    rw [decT (by omega), idx_lt hk]
    rw [List.getElem?_eq_getElem hk] at hp
    simp only [Option.map_some, Option.getD_some] at hp
    simp only [cond_true, Option.bind_some, valid_p (w _ (List.getElem_mem hk)), hp, cond_false]) (by
    unfold F_messages_allValid_l1
    rw [decF (by omega)]
    rfl)
  simp only [Int.natCast_zero] at h
  rw [h]
  have e : (∀ k, k < l.length → (l[k]?.map validN).getD true = true) ↔ l.all validN = true := by
    rw [List.all_eq_true]
    constructor
    · intro hk n hn
      obtain ⟨k, hk', rfl⟩ := List.getElem_of_mem hn
      have := hk k hk'
      rw [List.getElem?_eq_getElem hk'] at this
      simpa using this
    · intro hn k hk
      rw [List.getElem?_eq_getElem hk]
      simpa using hn _ (List.getElem_mem hk)
  by_cases ha : l.all validN = true
  · rw [if_pos (e.2 ha), ha]; rfl
  · rw [if_neg (fun h => ha (e.1 h))]
    rw [Bool.not_eq_true] at ha
    rw [ha]; rfl
theorem all_r {l : List S_Notice} (hl : l.length ≤ 4611686018427387904) : loopO (F_ref29_Encode_l1 l) 0 = some (if l.all validN = true then Sum.inl () else Sum.inr (([] : List Int), 1)) := by
  have h := loop_all (step := F_ref29_Encode_l1 l) (S := fun k => (k : Int)) l.length (fun k => (l[k]?.map validN).getD true) (rt := Sum.inl ()) (rf := Sum.inr (([] : List Int), 1)) (fun k hk hp => by
    unfold F_ref29_Encode_l1
    rw [decT (by omega), idx_lt hk]
    rw [List.getElem?_eq_getElem hk] at hp
    simp only [Option.map_some, Option.getD_some] at hp
    simp only [cond_true, Option.bind_some, valid_r, hp, wk k (by omega)]) (fun k hk hp => by
    unfold F_ref29_Encode_l1
    rw [decT (by omega), idx_lt hk]
    rw [List.getElem?_eq_getElem hk] at hp
    simp only [Option.map_some, Option.getD_some] at hp
    simp only [cond_true, Option.bind_some, valid_r, hp, cond_false]) (by
    unfold F_ref29_Encode_l1
    rw [decF (by omega)]
    rfl)
  simp only [Int.natCast_zero] at h
  rw [h]
  have e : (∀ k, k < l.length → (l[k]?.map validN).getD true = true) ↔ l.all validN = true := by
    rw [List.all_eq_true]
    constructor
    · intro hk n hn
      obtain ⟨k, hk', rfl⟩ := List.getElem_of_mem hn
      have := hk k hk'
      rw [List.getElem?_eq_getElem hk'] at this
      simpa using this
    · intro hn k hk
      rw [List.getElem?_eq_getElem hk]
      simpa using hn _ (List.getElem_mem hk)
  by_cases ha : l.all validN = true
  · rw [if_pos (e.2 ha), if_pos ha]
  · rw [if_neg (fun h => ha (e.1 h)), if_neg ha]
theorem all_good {l : List S_Notice} (w : ∀ n ∈ l, WfN n) (h : l.all validN = true) : ∀ n ∈ l, GoodN n := fun n hn => valid_good (w n hn) (List.all_eq_true.1 h n hn)
theorem good_all {l : List S_Notice} (g : ∀ n ∈ l, GoodN n) : l.all validN = true := List.all_eq_true.2 fun n hn => good_valid (g n hn)
theorem enc_p {l : List S_Notice} (w : ∀ n ∈ l, WfN n) (at_ : Int) : F_messages_Encode at_ l = some (encS at_ l) := by
  unfold F_messages_Encode encS
  by_cases h64 : l.length > 64
  · rw [decT (show (l.length : Int) > 64 by omega), if_pos h64]
    rfl
  rw [decF (show ¬ (l.length : Int) > 64 by omega), if_neg h64, cond_false, all_p w (by omega), Option.bind_some]
  by_cases ha : l.all validN = true
  rotate_left
  · rw [Bool.not_eq_true] at ha
    rw [ha, if_pos rfl]
    rfl
  have g := all_good w ha
  rw [ha, cond_true, if_neg (by simp)]
  unfold F_messages_isCreation
  by_cases h0 : at_ < 0
  · rw [decF (show ¬ at_ ≥ 0 by omega), if_pos (.inl h0)]
    rfl
  rw [decT (show at_ ≥ 0 by omega)]
  by_cases h1 : at_ ≥ 1099511627776
  · rw [decF (show ¬ at_ < 1099511627776 by omega), if_pos (.inr h1)]
    rfl
  rw [decT (show at_ < 1099511627776 by omega), if_neg (by omega)]
  simp only [cond_true, Option.bind_some]
  have hl := loop_run (step := F_messages_Encode_l1 l) (S := fun k => ((k : Int), stP l k)) l.length (r := stP l l.length) (fun k hk => by
    unfold F_messages_Encode_l1
    dsimp only
    rw [decT (by omega), idx_lt hk]
    simp only [cond_true, Option.bind_some, not_k g hk (by omega)]
    rw [wk k (by omega)]) (by
    unfold F_messages_Encode_l1
    dsimp only
    rw [decF (by omega)]
    rfl)
  have hl' : loopO (F_messages_Encode_l1 l) (0, S_messages_state.mk [] 0 [0, 0, 0, 0, 0, 0, 0, 0, 0, 0, 0, 0, 0, 0, 0, 0]) = some (stP l l.length) := hl
  rw [hl', Option.bind_some, packet_p (by have := stP_len g l.length; omega) (by omega) (by omega), Option.bind_some]
  unfold stP pk
  rw [List.take_length]
theorem body_r {l : List S_Notice} (g : ∀ n ∈ l, GoodN n) (hn : l.length ≤ 10000) : F_ref29_Body l = some (encL 0 ad0 l) := by
  unfold F_ref29_Body
  have hl := loop_run (step := F_ref29_Body_l1 l) (S := fun k => ((stP l k).elements, (stP l k).router, (k : Int), (stP l k).dst)) l.length (r := encL 0 ad0 l) (fun k hk => by
    rw [body_step hk (g _ (List.getElem_mem hk)) hn (by have := stP_len g k; omega) _ (stP_dst g k), stP_next hk]) (by
    unfold F_ref29_Body_l1
    dsimp only
    rw [decF (by omega)]
    unfold stP
    rw [List.take_length]
    rfl)
  have hl' : loopO (F_ref29_Body_l1 l) (([] : List Int), 0, 0, [0, 0, 0, 0, 0, 0, 0, 0, 0, 0, 0, 0, 0, 0, 0, 0]) = some (encL 0 ad0 l) := hl
  rw [hl']
  rfl
theorem enc_r {l : List S_Notice} (w : ∀ n ∈ l, WfN n) (at_ : Int) : F_ref29_Encode at_ l = some (encS at_ l) := by
  unfold F_ref29_Encode encS
  by_cases h64 : l.length > 64
  · rw [decT (show (l.length : Int) > 64 by omega), if_pos h64]
    rfl
  rw [decF (show ¬ (l.length : Int) > 64 by omega), if_neg h64, cond_false, all_r (by omega), Option.bind_some]
  by_cases ha : l.all validN = true
  rotate_left
  · rw [if_neg ha]
    rw [Bool.not_eq_true] at ha
    rw [ha, if_pos rfl]
    rfl
  have g := all_good w ha
  rw [if_pos ha, ha, if_neg (by simp), Sum.elim_inl]
  by_cases h0 : at_ < 0
  · rw [decT h0, if_pos (.inl h0)]
    rfl
  rw [decF h0]
  by_cases h1 : at_ ≥ 1099511627776
  · rw [decT h1, if_pos (.inr h1)]
    rfl
  have hlen := encL_len 0 ad0 l g
  rw [decF h1, if_neg (by omega), cond_false, cond_false, body_r g (by omega), Option.bind_some, wu (by omega) (by omega), show (5 : Int) = ((5 : Nat) : Int) from rfl, put_g _ _ _ (by omega) (by simp), Option.bind_some, wu (by omega) (by omega), show (2 : Int) = ((2 : Nat) : Int) from rfl, put_g _ _ _ (by omega) (by simp [beB_len]), Option.bind_some]
  simp only [Cut.app]
  rw [appb (by simp [beB_len]) (by omega)]
  rfl
end
section
open Go.RowKit

theorem ior_comm (x y : Int) : ior .u64 x y = ior .u64 y x := by unfold ior; rw [BitVec.or_comm]
theorem be_step {v c : Int} (h0 : 0 ≤ v) (h1 : v < 72057594037927936) (c0 : 0 ≤ c) (c1 : c ≤ 255) : ior .u64 (ishl .u64 v 8) (IntKind.wrap .u64 c) = v * 256 + c := by
  have e : (2 : Int) ^ (8 : Int).toNat = 2 ^ 8 := rfl
  have e2 : (256 : Int) = 2 ^ 8 := rfl
  rw [ishl_eq (by omega) (by omega), wu c0 (by omega), e, Int.emod_eq_of_lt (Int.mul_nonneg h0 (by decide)) (by rw [← e2]; omega), ior_comm, ior_add 8 c0 (by omega) h0 (by rw [← e2]; omega)]
  omega
theorem be_fold (l : List Int) (h : okB l) (h8 : l.length ≤ 8) (k : Nat) (hk : k < l.length) : ior .u64 (ishl .u64 (beN (l.take k)) 8) (IntKind.wrap .u64 l[k]) = beN (l.take (k + 1)) := by
  have hb := beN_bd (h.take k)
  have hl : (l.take k).length = k := by rw [List.length_take]; omega
  have hp : (256 : Int) ^ k ≤ 72057594037927936 := by
    have : k ≤ 7 := by omega
    rcases k with _ | _ | _ | _ | _ | _ | _ | _ | k
    all_goals first | decide | omega
  rw [hl] at hb
  have hx := h.get hk
  rw [be_step hb.1 (by omega) hx.1 hx.2, take_snoc (List.getElem?_eq_getElem hk), beN_snoc]
theorem beN_beB (v : Int) (n : Nat) : beN (beB v n) = v % 256 ^ n := by
  induction n generalizing v with
  | zero => simp [beB, beN, Int.emod_one]
  | succ n ih =>
    have e : beB v (n + 1) = beB (v / 256) n ++ [v % 256] := by
      apply List.ext_getElem?
      intro i
      rcases Nat.lt_trichotomy i n with hi | hi | hi
      · rw [beB_get (by omega), List.getElem?_append_left (by rw [beB_len]; exact hi), beB_get hi]
        congr 2
        rw [show n + 1 - 1 - i = (n - 1 - i) + 1 by omega, Nat.mul_add, Int.pow_add]
        rw [Int.mul_comm, ← Int.ediv_ediv_of_nonneg (by decide)]
        rfl
      · subst hi
        rw [beB_get (by omega), List.getElem?_append_right (by rw [beB_len]; exact Nat.le_refl _), beB_len]
        simp
      · rw [List.getElem?_eq_none (by rw [beB_len]; omega), List.getElem?_eq_none (by simp [beB_len]; omega)]
    rw [e, beN_snoc, ih, Int.pow_succ]
    have h1 := Int.emod_add_mul_ediv v 256
    have h2 := Int.emod_add_mul_ediv (v / 256) (256 ^ n)
    have hp : (0 : Int) < 256 ^ n := Int.pow_pos (by decide)
    have h3 := Int.emod_nonneg (v / 256) (Int.ne_of_gt hp)
    have h4 := Int.emod_lt_of_pos (v / 256) hp
    have h5 := Int.emod_nonneg v (show (256 : Int) ≠ 0 by decide)
    have h6 := Int.emod_lt_of_pos v (show (0 : Int) < 256 by decide)
    have h7 : v = (v / 256 % 256 ^ n * 256 + v % 256) + (256 ^ n * 256) * (v / 256 / 256 ^ n) := by
      have : 256 * (256 ^ n * (v / 256 / 256 ^ n)) = (256 ^ n * 256) * (v / 256 / 256 ^ n) := by
        rw [← Int.mul_assoc, Int.mul_comm (256 : Int) (256 ^ n)]
      omega
    have h8 : (0 : Int) ≤ v / 256 % 256 ^ n * 256 + v % 256 := by omega
    have h9 : v / 256 % 256 ^ n * 256 + v % 256 < 256 ^ n * 256 := by omega
    conv => rhs; rw [h7]
    rw [Int.add_mul_emod_self_left, Int.emod_eq_of_lt h8 h9]
theorem uint_loop {l : List Int} (h : okB l) (h8 : l.length ≤ 8) : loopO (F_octets_Uint_l1 l) (0, 0) = some (beN l) := by
  have hl := loop_run (step := F_octets_Uint_l1 l) (S := fun k => (beN (l.take k), (k : Int))) l.length (r := beN l) (fun k hk => by
    unfold F_octets_Uint_l1
    dsimp only
    rw [decT (show (k : Int) < (l.length : Int) by omega), idx_lt hk]
    simp only [cond_true, Option.bind_some]
    rw [be_fold l h h8 k hk, wk k (by omega)]) (by
    unfold F_octets_Uint_l1
    dsimp only
    rw [decF (show ¬ (l.length : Int) < (l.length : Int) by omega)]
    simp only [cond_false, List.take_length])
  exact hl
/-- octets.Uint within the list -/
theorem uint_some {b : List Int} (h : okB b) (hb : b.length ≤ 1000000000000) (i n : Nat) (h1 : 1 ≤ n) (h8 : n ≤ 8) (hi : i + n ≤ b.length) : F_octets_Uint b i n = some (beN ((b.drop i).take n), true) := by
  unfold F_octets_Uint
  rw [decF (show ¬ (n : Int) < 1 by omega), decF (show ¬ (n : Int) > 8 by omega), decF (show ¬ (i : Int) < 0 by omega), wi (by omega) (by omega), decF (show ¬ (i : Int) > (b.length : Int) - (n : Int) by omega), wi (by omega) (by omega), subO_some (by omega) (by omega) (by omega)]
  simp only [cond_false, Option.bind_some]
  rw [show (b.take ((i : Int) + (n : Int)).toNat).drop (i : Int).toNat = (b.drop i).take n by rw [show ((i : Int) + (n : Int)).toNat = i + n by omega, Int.toNat_natCast, List.drop_take, Nat.add_sub_cancel_left]]
  rw [uint_loop ((h.drop i).take n) (by rw [List.length_take]; omega)]
  rfl
/-- octets.Uint behind the end -/
theorem uint_none {b : List Int} (hb : b.length ≤ 1000000000000) (i n : Nat) (h1 : 1 ≤ n) (h8 : n ≤ 8) (hi : b.length < i + n) : F_octets_Uint b i n = some (0, false) := by
  unfold F_octets_Uint
  rw [decF (show ¬ (n : Int) < 1 by omega), decF (show ¬ (n : Int) > 8 by omega), decF (show ¬ (i : Int) < 0 by omega), wi (by omega) (by omega), decT (show (i : Int) > (b.length : Int) - (n : Int) by omega)]
  rfl
end
section
open Go.RowKit

/-- sixteen bytes that begin with these -/
def fillA (l : List Int) : List Int := l ++ List.replicate (16 - l.length) 0
theorem fillA_len {l : List Int} (h : l.length ≤ 16) : (fillA l).length = 16 := by
  unfold fillA
  rw [List.length_append, List.length_replicate]
  omega
theorem fillA_get (l : List Int) (j : Nat) : (fillA l).getD j 0 = l.getD j 0 := by
  unfold fillA
  simp only [List.getD_eq_getElem?_getD, List.getElem?_append]
  split
  · rfl
  · rename_i h
    rw [List.getElem?_eq_none (l := l) (by omega)]
    by_cases h2 : j - l.length < 16 - l.length
    · rw [List.getElem?_replicate_of_lt h2]; rfl
    · rw [List.getElem?_eq_none (by simp; omega)]
theorem fillA_ok {l : List Int} (h : okB l) : Bytes (fillA l) := fun z hz => by
  rcases List.mem_append.1 hz with h1 | h1
  · exact h z h1
  · rw [(List.mem_replicate.1 h1).2]; exact ⟨by omega, by omega⟩
theorem fillA_wf {l : List Int} (h : okB l) (hl : l.length ≤ 16) (b : Int) : wfP (S_Prefix.mk (fillA l) b) := ⟨fillA_len hl, fillA_ok h⟩
theorem arr_ext {a b : List Int} (ha : a.length = 16) (hb : b.length = 16) (h : ∀ j, j < 16 → a.getD j 0 = b.getD j 0) : a = b := by
  refine List.ext_getElem (by omega) fun i h1 h2 => ?_
  have := h i (by omega)
  rwa [getD_get h1, getD_get h2] at this
theorem ad0_get (j : Nat) : ad0.getD j 0 = 0 := by
  unfold ad0
  by_cases h : j < 16
  · have : j = 0 ∨ j = 1 ∨ j = 2 ∨ j = 3 ∨ j = 4 ∨ j = 5 ∨ j = 6 ∨ j = 7 ∨ j = 8 ∨ j = 9 ∨ j = 10 ∨ j = 11 ∨ j = 12 ∨ j = 13 ∨ j = 14 ∨ j = 15 := by omega
    rcases this with rfl | rfl | rfl | rfl | rfl | rfl | rfl | rfl | rfl | rfl | rfl | rfl | rfl | rfl | rfl | rfl <;> rfl
  · rw [List.getD_eq_getElem?_getD, List.getElem?_eq_none (by simp; omega)]
    rfl
theorem rg_get (f : Nat → Int) {j : Nat} (h : j < 16) : ((List.range 16).map f).getD j 0 = f j := by
  rw [getD_get (by simpa using h)]
  simp
theorem cpA_fill {l : List Int} (h : l.length ≤ 16) : cpA 16 ad0 l = fillA l := by
  refine arr_ext (by simp [cpA]) (fillA_len h) fun j hj => ?_
  rw [fillA_get]
  unfold cpA
  rw [rg_get _ hj, ad0_get]
  split
  · rfl
  · rename_i h
    rw [List.getD_eq_getElem?_getD, List.getElem?_eq_none (by omega)]
    rfl
theorem cpAt_fill {a m : List Int} (h : a.length + m.length ≤ 16) : cpAt 16 (fillA a) a.length (16 - a.length) m = fillA (a ++ m) := by
  refine arr_ext (by simp [cpAt]) (fillA_len (by rw [List.length_append]; exact h)) fun j hj => ?_
  rw [fillA_get]
  unfold cpAt
  rw [rg_get _ hj, fillA_get]
  simp only [List.getD_eq_getElem?_getD, List.getElem?_append]
  split
  · rw [if_neg (by omega)]
  · split
    · omega
    · rw [List.getElem?_eq_none (l := a) (by omega), List.getElem?_eq_none (l := m) (by omega)]
/-- a valid prefix is its own bytes and zeros -/
theorem pfx_fill {p : S_Prefix} (w : wfP p) (v : vpB p = true) : fillA (pfx p) = p.IP := by
  have hv := vpB_iff.1 v
  have hm := (mask_eq_self w.1 w.2 p.Bits.toNat).2 hv.2.2
  refine arr_ext (fillA_len (pfx_le w)) w.1 fun j hj => ?_
  rw [fillA_get]
  by_cases h : j < sz p.Bits
  · rw [getD_get (by rw [pfx_len w v]; exact h), getD_get (by rw [w.1]; exact hj)]
    simp [pfx]
  · rw [List.getD_eq_getElem?_getD, List.getElem?_eq_none (by rw [pfx_len w v]; omega)]
    rw [← hm, maskL_get _ _ hj]
    have hc : clamp p.Bits.toNat j = 0 := by unfold clamp; unfold sz at h; omega
    rw [hc]
    have key : ∀ x : Fin 256, maskB x 0 = 0 := by decide +kernel
    obtain ⟨x, hx⟩ := byte_fin (getD_byte w.2 j)
    rw [hx, key x]
    rfl
def numB (b : List Int) (i n : Nat) : Int := if i + n ≤ b.length then beN ((b.drop i).take n) else 0
theorem num_p {b : List Int} (h : okB b) (hb : b.length ≤ 1000000) (i n : Nat) (h1 : 1 ≤ n) (h8 : n ≤ 8) : F_messages_read_1_R472 i n b = some (numB b i n) := by
  unfold F_messages_read_1_R472 numB
  by_cases hi : i + n ≤ b.length
  · rw [uint_some h (by omega) i n h1 h8 hi, if_pos hi]
    rfl
  · rw [uint_none (by omega) i n h1 h8 (by omega), if_neg hi]
    rfl
theorem num_bd {b : List Int} (h : okB b) (i n : Nat) : 0 ≤ numB b i n ∧ numB b i n < 256 ^ n := by
  unfold numB
  have hp : (0 : Int) < 256 ^ n := Int.pow_pos (by omega)
  split
  · rename_i hi
    have := beN_bd (l := (b.drop i).take n) (fun z hz => h z (List.mem_of_mem_drop (List.mem_of_mem_take hz)))
    rwa [List.length_take, List.length_drop, Nat.min_eq_left (by omega)] at this
  · omega
theorem num_at {a b c : List Int} (n : Nat) (hb : b.length = n) : numB (a ++ b ++ c) a.length n = beN b := by
  unfold numB
  rw [if_pos (by simp; omega)]
  congr 1
  rw [List.append_assoc, List.drop_left, List.take_append_of_le_length (by omega), List.take_of_length_le (by omega)]
theorem beN_one (v : Int) : beN [v] = v := by simp [beN]
def badN : S_Notice := S_Notice.mk 0 0 0 0 t0 0
theorem badN_wf : WfN badN := ⟨by decide, by decide, by decide, wfP0, wfP0⟩
def fits (x y k : Int) (len a : Nat) : Prop := x ≤ 128 ∧ y ≤ 128 ∧ k ≤ sz x ∧ a ≤ len ∧ len = a + (sz x - k.toNat) + sz y
instance (x y k : Int) (len a : Nat) : Decidable (fits x y k len a) := by unfold fits; infer_instance
def dstL (before body : List Int) (x k : Int) (a : Nat) : List Int := fillA (before.take k.toNat ++ (body.drop a).take (sz x - k.toNat))
def srcL (body : List Int) (x k : Int) (a : Nat) : List Int := fillA (body.drop (a + (sz x - k.toNat)))
theorem pfs_p {n : S_Notice} (e1 : n.To.Dst.IP = ad0) (e2 : n.To.Src.IP = ad0) {x y k : Int} (hx : 0 ≤ x ∧ x ≤ 255) (hy : 0 ≤ y ∧ y ≤ 255) (hk : 0 ≤ k ∧ k ≤ 255) {before : List Int} (hbf : before.length = 16) {body : List Int} (hb : body.length ≤ 1000000) (a : Nat) (ha : a ≤ 13) :
    F_messages_prefixes n x y k before body a = some (if fits x y k body.length a then (S_Notice.mk n.Kind n.Seq n.Metric n.Neighbour (S_Destination.mk (S_Prefix.mk (dstL before body x k a) x) (S_Prefix.mk (srcL body x k a) y) n.To.Router) n.Hops, true) else (badN, false)) := by
  unfold F_messages_prefixes
  by_cases h1 : x > 128
  · rw [decT h1, if_neg (show ¬ fits x y k body.length a by unfold fits; omega)]
    rfl
  rw [decF h1]
  by_cases h2 : y > 128
  · rw [decT h2, if_neg (show ¬ fits x y k body.length a by unfold fits; omega)]
    rfl
  rw [decF h2]
  simp only [cond_false]
  have z1 := sz_le hx.1 (by omega : x ≤ 128)
  have z2 := sz_le hy.1 (by omega : y ≤ 128)
  rw [wi (x := x) (by omega) (by omega), wi (x := y) (by omega) (by omega), wi (x := k) (by omega) (by omega), size_p hx.1 hx.2, size_p hy.1 hy.2]
  simp only [Option.bind_some]
  rw [wu (by omega) (by omega)]
  by_cases h3 : k > sz x
  · rw [decT h3, if_neg (show ¬ fits x y k body.length a by unfold fits; omega)]
    rfl
  rw [decF h3]
  by_cases h4 : (body.length : Int) < a
  · rw [decT h4, if_neg (show ¬ fits x y k body.length a by unfold fits; omega)]
    rfl
  rw [decF h4]
  simp only [cond_false]
  rw [wi (x := (sz x : Int) - k) (by omega) (by omega), wi (x := (a : Int) + ((sz x : Int) - k)) (by omega) (by omega), wi (x := (a : Int) + ((sz x : Int) - k) + sz y) (by omega) (by omega)]
  by_cases h5 : (body.length : Int) = (a : Int) + ((sz x : Int) - k) + sz y
  rotate_left
  · rw [show ((body.length : Int) != (a : Int) + ((sz x : Int) - k) + sz y) = true by simp [h5], if_neg (show ¬ fits x y k body.length a by unfold fits; omega)]
    rfl
  rw [show ((body.length : Int) != (a : Int) + ((sz x : Int) - k) + sz y) = false by simp [h5], if_pos (show fits x y k body.length a by unfold fits; omega), arrL_id hbf, subO_some (by omega) (by omega) (by omega), decT (by omega), decT (by omega), subO_some (by omega) (by omega) (by omega), subO_some (by omega) (by omega) (by omega)]
  simp only [cond_false, cond_true, Option.bind_some, Cut.app, e1, e2]
  have q1 : ((a : Int) + ((sz x : Int) - k)).toNat = a + (sz x - k.toNat) := by omega
  have q2 : (((body.length : Nat) : Int)).toNat = body.length := Int.toNat_natCast _
  have q3 : ((a : Nat) : Int).toNat = a := Int.toNat_natCast _
  rw [q1, q2, q3, List.take_length]
  have l1 : (before.take k.toNat).length = k.toNat := by rw [List.length_take, hbf]; omega
  have d1 : (before.take k.toNat).drop (Int.toNat 0) = before.take k.toNat := by simp
  have d2 : (body.take (a + (sz x - k.toNat))).drop a = (body.drop a).take (sz x - k.toNat) := by
    rw [List.drop_take]
    congr 1
    omega
  have l2 : ((body.drop a).take (sz x - k.toNat)).length = sz x - k.toNat := by rw [List.length_take, List.length_drop]; omega
  have c1 := cpAt_fill (a := before.take k.toNat) (m := (body.drop a).take (sz x - k.toNat)) (by omega)
  rw [l1] at c1
  rw [d1, d2, cpA_fill (by omega), cpA_fill (by rw [List.length_drop]; omega), show (Int.toNat (16 : Int) - k.toNat) = 16 - k.toNat from rfl, c1]
  rfl
def readS (k : Int) (b : List Int) (r : Int) (d : List Int) : S_Notice × Bool :=
  if k = 1 then (S_Notice.mk 1 (numB b 0 2) 0 0 t0 0, true)
  else if k = 2 then (S_Notice.mk 2 0 (numB b 8 2) (numB b 0 8) t0 0, true)
  else if k = 3 then (if fits (numB b 1 1) (numB b 2 1) (numB b 0 1) b.length 7 then (S_Notice.mk 3 (numB b 3 2) (numB b 5 2) 0 (S_Destination.mk (S_Prefix.mk (dstL d b (numB b 1 1) (numB b 0 1) 7) (numB b 1 1)) (S_Prefix.mk (srcL b (numB b 1 1) (numB b 0 1) 7) (numB b 2 1)) r) 0, true) else (badN, false))
  else if k = 4 then (if fits (numB b 0 1) (numB b 1 1) 0 b.length 2 then (S_Notice.mk 4 0 0 0 (S_Destination.mk (S_Prefix.mk (dstL d b (numB b 0 1) 0 2) (numB b 0 1)) (S_Prefix.mk (srcL b (numB b 0 1) 0 2) (numB b 1 1)) 0) 0, true) else (badN, false))
  else if k = 5 then (if fits (numB b 0 1) (numB b 1 1) 0 b.length 13 then (S_Notice.mk 5 (numB b 2 2) 0 0 (S_Destination.mk (S_Prefix.mk (dstL d b (numB b 0 1) 0 13) (numB b 0 1)) (S_Prefix.mk (srcL b (numB b 0 1) 0 13) (numB b 1 1)) (numB b 5 8)) (numB b 4 1), true) else (badN, false))
  else (badN, false)
theorem read_p {b : List Int} (h : okB b) (hb : b.length ≤ 255) (k : Int) {s : S_messages_state} (hd : s.dst.length = 16) : F_messages_read k b s = some (readS k b s.router s.dst) := by
  have n1 := fun i => num_bd h i 1
  have n2 := fun i => num_bd h i 2
  have e1 := fun i => num_p h (by omega) i 1 (by omega) (by omega)
  have e2 := fun i => num_p h (by omega) i 2 (by omega) (by omega)
  have e8 := fun i => num_p h (by omega) i 8 (by omega) (by omega)
  have b1 : ∀ i, 0 ≤ numB b i 1 ∧ numB b i 1 ≤ 255 := fun i => by have := n1 i; omega
  have b2 : ∀ i, 0 ≤ numB b i 2 ∧ numB b i 2 ≤ 65535 := fun i => by have := n2 i; omega
  unfold F_messages_read readS
  by_cases k1 : k = 1
  · subst k1
    have := e2 0
    simp only [Int.natCast_zero, show ((2 : Nat) : Int) = 2 from rfl] at this
    simp only [show ((1 : Int) == 1) = true from rfl, cond_true, this, Option.bind_some, if_true, wu16 (b2 0).1 (by have := b2 0; omega)]
    rfl
  rw [beqF k1, if_neg k1, cond_false]
  by_cases k2 : k = 2
  · subst k2
    have h0 := e8 0
    have h1 := e2 8
    simp only [Int.natCast_zero, show ((2 : Nat) : Int) = 2 from rfl, show ((8 : Nat) : Int) = 8 from rfl] at h0 h1
    simp only [show ((2 : Int) == 2) = true from rfl, cond_true, h0, h1, Option.bind_some, if_true, wi (x := numB b 8 2) (by have := b2 8; omega) (by have := b2 8; omega)]
    rfl
  rw [beqF k2, if_neg k2, cond_false]
  by_cases k3 : k = 3
  · subst k3
    have h0 := e2 3
    have h1 := e2 5
    have h2 := e1 1
    have h3 := e1 2
    have h4 := e1 0
    simp only [Int.natCast_zero, show ((1 : Nat) : Int) = 1 from rfl, show ((2 : Nat) : Int) = 2 from rfl, show ((3 : Nat) : Int) = 3 from rfl, show ((5 : Nat) : Int) = 5 from rfl] at h0 h1 h2 h3 h4
    simp only [show ((3 : Int) == 3) = true from rfl, cond_true, h0, h1, h2, h3, h4, Option.bind_some, if_true]
    have hp := pfs_p (n := S_Notice.mk 3 (IntKind.wrap .u16 (numB b 3 2)) (IntKind.wrap .i64 (numB b 5 2)) 0 (S_Destination.mk (S_Prefix.mk ad0 0) (S_Prefix.mk ad0 0) s.router) 0) rfl rfl (b1 1) (b1 2) (b1 0) hd (by omega : b.length ≤ 1000000) 7 (by omega)
    have hp' : F_messages_prefixes (S_Notice.mk 3 (IntKind.wrap .u16 (numB b 3 2)) (IntKind.wrap .i64 (numB b 5 2)) 0 (S_Destination.mk (S_Prefix.mk [0, 0, 0, 0, 0, 0, 0, 0, 0, 0, 0, 0, 0, 0, 0, 0] 0) (S_Prefix.mk [0, 0, 0, 0, 0, 0, 0, 0, 0, 0, 0, 0, 0, 0, 0, 0] 0) s.router) 0) (numB b 1 1) (numB b 2 1) (numB b 0 1) s.dst b 7 = _ := hp
    rw [hp', Option.bind_some, wu16 (b2 3).1 (by have := b2 3; omega), wi (x := numB b 5 2) (by have := b2 5; omega) (by have := b2 5; omega)]
  rw [beqF k3, if_neg k3, cond_false]
  by_cases k4 : k = 4
  · subst k4
    have h2 := e1 0
    have h3 := e1 1
    simp only [Int.natCast_zero, show ((1 : Nat) : Int) = 1 from rfl] at h2 h3
    simp only [show ((4 : Int) == 4) = true from rfl, cond_true, h2, h3, Option.bind_some, if_true]
    have hp := pfs_p (n := S_Notice.mk 4 0 0 0 (S_Destination.mk (S_Prefix.mk ad0 0) (S_Prefix.mk ad0 0) 0) 0) rfl rfl (b1 0) (b1 1) (k := 0) (by omega) hd (by omega : b.length ≤ 1000000) 2 (by omega)
    have hp' : F_messages_prefixes (S_Notice.mk 4 0 0 0 (S_Destination.mk (S_Prefix.mk [0, 0, 0, 0, 0, 0, 0, 0, 0, 0, 0, 0, 0, 0, 0, 0] 0) (S_Prefix.mk [0, 0, 0, 0, 0, 0, 0, 0, 0, 0, 0, 0, 0, 0, 0, 0] 0) 0) 0) (numB b 0 1) (numB b 1 1) 0 s.dst b 2 = _ := hp
    rw [hp', Option.bind_some]
  rw [beqF k4, if_neg k4, cond_false]
  by_cases k5 : k = 5
  · subst k5
    have h0 := e2 2
    have h1 := e1 4
    have h2 := e8 5
    have h3 := e1 0
    have h4 := e1 1
    simp only [Int.natCast_zero, show ((1 : Nat) : Int) = 1 from rfl, show ((2 : Nat) : Int) = 2 from rfl, show ((4 : Nat) : Int) = 4 from rfl, show ((5 : Nat) : Int) = 5 from rfl, show ((8 : Nat) : Int) = 8 from rfl] at h0 h1 h2 h3 h4
    simp only [show ((5 : Int) == 5) = true from rfl, cond_true, h0, h1, h2, h3, h4, Option.bind_some, if_true]
    have hp := pfs_p (n := S_Notice.mk 5 (IntKind.wrap .u16 (numB b 2 2)) 0 0 (S_Destination.mk (S_Prefix.mk ad0 0) (S_Prefix.mk ad0 0) (numB b 5 8)) (IntKind.wrap .i64 (numB b 4 1))) rfl rfl (b1 0) (b1 1) (k := 0) (by omega) hd (by omega : b.length ≤ 1000000) 13 (by omega)
    have hp' : F_messages_prefixes (S_Notice.mk 5 (IntKind.wrap .u16 (numB b 2 2)) 0 0 (S_Destination.mk (S_Prefix.mk [0, 0, 0, 0, 0, 0, 0, 0, 0, 0, 0, 0, 0, 0, 0, 0] 0) (S_Prefix.mk [0, 0, 0, 0, 0, 0, 0, 0, 0, 0, 0, 0, 0, 0, 0, 0] 0) (numB b 5 8)) (IntKind.wrap .i64 (numB b 4 1))) (numB b 0 1) (numB b 1 1) 0 s.dst b 13 = _ := hp
    rw [hp', Option.bind_some, wu16 (b2 2).1 (by have := b2 2; omega), wi (x := numB b 4 1) (by have := b1 4; omega) (by have := b1 4; omega)]
  rw [beqF k5, if_neg k5, cond_false]
  rfl
end
section
open Go.RowKit

theorem num_eq {b a v c : List Int} {i n : Nat} (h : b = a ++ v ++ c) (ha : a.length = i) (hv : v.length = n) : numB b i n = beN v := by
  subst h ha
  exact num_at n hv
theorem beN_v {v : Int} {n : Nat} (h0 : 0 ≤ v) (h1 : v < 256 ^ n) : beN (beB v n) = v := by
  rw [beN_beB, Int.emod_eq_of_lt h0 h1]
theorem dst_wf {d body : List Int} (hd : d.length = 16) (od : okB d) (ob : okB body) {x y k : Int} {a : Nat} (hk : 0 ≤ k) (hx : 0 ≤ x) (h : fits x y k body.length a) : wfP (S_Prefix.mk (dstL d body x k a) x) := by
  obtain ⟨h1, h2, h3, h4, h5⟩ := h
  have z1 := sz_le hx h1
  unfold dstL
  refine fillA_wf (okB.append (okB.take od _) (okB.take (okB.drop ob _) _)) ?_ _
  rw [List.length_append, List.length_take, List.length_take, List.length_drop]
  omega
theorem src_wf {body : List Int} (ob : okB body) {x y k : Int} {a : Nat} (hy : 0 ≤ y) (h : fits x y k body.length a) : wfP (S_Prefix.mk (srcL body x k a) y) := by
  obtain ⟨h1, h2, h3, h4, h5⟩ := h
  have z1 := sz_le hy h2
  unfold srcL
  refine fillA_wf (okB.drop ob _) ?_ _
  rw [List.length_drop]
  omega
theorem read_wf {b : List Int} (h : okB b) (k : Int) {r : Int} (hr : 0 ≤ r ∧ r ≤ 18446744073709551615) {d : List Int} (hd : d.length = 16) (od : okB d) : WfN (readS k b r d).1 := by
  have n1 := fun i => num_bd h i 1
  have n2 := fun i => num_bd h i 2
  have n8 := fun i => num_bd h i 8
  have b1 : ∀ i, 0 ≤ numB b i 1 ∧ numB b i 1 ≤ 255 := fun i => by have := n1 i; omega
  have b2 : ∀ i, 0 ≤ numB b i 2 ∧ numB b i 2 ≤ 65535 := fun i => by have := n2 i; omega
  have b8 : ∀ i, 0 ≤ numB b i 8 ∧ numB b i 8 ≤ 18446744073709551615 := fun i => by have := n8 i; omega
  have o0 : (0 : Int) ≤ 0 ∧ (0 : Int) ≤ 65535 := by omega
  have o1 : (0 : Int) ≤ 0 ∧ (0 : Int) ≤ 18446744073709551615 := by omega
  unfold readS
  split
  · exact ⟨b2 0, o1, o1, wfP0, wfP0⟩
  split
  · exact ⟨o0, b8 0, o1, wfP0, wfP0⟩
  split
  · split
    · rename_i hf
      exact ⟨b2 3, o1, hr, dst_wf hd od h (b1 0).1 (b1 1).1 hf, src_wf h (b1 2).1 hf⟩
    · exact badN_wf
  split
  · split
    · rename_i hf
      exact ⟨o0, o1, o1, dst_wf hd od h (by omega) (b1 0).1 hf, src_wf h (b1 1).1 hf⟩
    · exact badN_wf
  split
  · split
    · rename_i hf
      exact ⟨b2 2, o1, b8 5, dst_wf hd od h (by omega) (b1 0).1 hf, src_wf h (b1 1).1 hf⟩
    · exact badN_wf
  · exact badN_wf
noncomputable def stepM (k : Int) (body t : List Int) (out : List S_Notice) (s : S_messages_state) : ((List Int) × (List S_Notice) × S_messages_state) ⊕ ((List S_Notice) ⊕ ((List S_Notice) × Bool)) :=
  if k = 6 then (if 8 ≤ body.length then .inl (t, out, S_messages_state.mk s.elements (numB body 0 8) s.dst) else .inr (.inr ([], false)))
  else if (readS k body s.router s.dst).2 = true then .inl (t, out ++ [(readS k body s.router s.dst).1], S_messages_state.mk s.elements s.router (nxD s.dst (readS k body s.router s.dst).1))
  else .inr (.inr ([], false))
theorem stepm_p {k m : Int} {rest : List Int} (hm : 0 ≤ m ∧ m ≤ 255) (hl : m ≤ rest.length) (hr : rest.length ≤ 1000000) (ok : okB rest) {out : List S_Notice} (ho : out.length ≤ 64) {s : S_messages_state} (hd : s.dst.length = 16) :
    F_messages_parse_l1 (k :: m :: rest, out, s) = some (stepM k (rest.take m.toNat) (rest.drop m.toNat) out s) := by
  unfold F_messages_parse_l1
  dsimp only
  have e0 : idx (k :: m :: rest) 0 = some k := rfl
  have e1 : idx (k :: m :: rest) 1 = some m := rfl
  have hbl : (rest.take m.toNat).length = m.toNat := by rw [List.length_take]; omega
  rw [decT (show ((k :: m :: rest).length : Int) > 0 by simp; omega), decF (show ¬ ((k :: m :: rest).length : Int) < 2 by simp; omega), e0, e1]
  simp only [cond_true, cond_false, Option.bind_some]
  rw [wi (x := m) (by omega) (by omega), wi (x := ((k :: m :: rest).length : Int) - 2) (by simp; omega) (by simp; omega), decF (show ¬ ((k :: m :: rest).length : Int) - 2 < m by simp; omega), decF (show ¬ ((out.length : Nat) : Int) > 64 by omega), wi (x := 2 + m) (by omega) (by omega), subO_some (l := k :: m :: rest) (a := 2) (by omega) (by omega) (by simp; omega)]
  simp only [cond_false, Option.bind_some]
  have e2 : ((k :: m :: rest).take (2 + m).toNat).drop (2 : Int).toNat = rest.take m.toNat := by
    rw [show (2 + m).toNat = m.toNat + 1 + 1 by omega]
    simp
  rw [e2, hbl, wi (x := 2 + ((m.toNat : Nat) : Int)) (by omega) (by omega), subO_some (l := k :: m :: rest) (by omega) (by simp; omega) (by omega)]
  have e3 : ((k :: m :: rest).take (((k :: m :: rest).length : Nat) : Int).toNat).drop (2 + ((m.toNat : Nat) : Int)).toNat = rest.drop m.toNat := by
    rw [Int.toNat_natCast, List.take_length, show (2 + ((m.toNat : Nat) : Int)).toNat = m.toNat + 1 + 1 by omega]
    simp
  rw [e3, Option.bind_some]
  have okb : okB (rest.take m.toNat) := okB.take ok _
  unfold stepM
  by_cases k6 : k = 6
  · subst k6
    rw [if_pos rfl, show ((6 : Int) == 6) = true from rfl, cond_true]
    by_cases h8 : 8 ≤ (rest.take m.toNat).length
    · have hu := uint_some okb (by omega) 0 8 (by omega) (by omega) (by omega)
      have hu' : F_octets_Uint (rest.take m.toNat) 0 8 = some (beN (((rest.take m.toNat).drop 0).take 8), true) := hu
      rw [hu', if_pos h8]
      unfold numB
      rw [if_pos (by omega)]
      rfl
    · have hu := uint_none (b := rest.take m.toNat) (by omega) 0 8 (by omega) (by omega) (by omega)
      have hu' : F_octets_Uint (rest.take m.toNat) 0 8 = some (0, false) := hu
      rw [hu', if_neg h8]
      rfl
  · rw [if_neg k6, beqF k6, cond_false, read_p okb (by omega) k hd, Option.bind_some]
    unfold F_messages_parse_j2
    simp only [Cut.app]
    rw [appO_some (by simp; omega) (by simp; omega)]
    simp only [Option.bind_some]
    cases h2 : (readS k (rest.take m.toNat) s.router s.dst).2
    · rfl
    · simp only [cond_true, if_true, nxD]
      by_cases h3 : (readS k (rest.take m.toNat) s.router s.dst).1.Kind = 3
      · rw [if_pos h3, h3]
        rfl
      · rw [if_neg h3, beqF h3]
        rfl
theorem parse_tot {b : List Int} (ok : okB b) (hb : b.length ≤ 1000000) : (∃ l, F_messages_parse b = some (l, true) ∧ ∀ n ∈ l, WfN n) ∨ F_messages_parse b = some ([], false) := by
  unfold F_messages_parse
  obtain ⟨r, e, hq⟩ := loop_inv (step := F_messages_parse_l1) (fun s => okB s.1 ∧ s.1.length ≤ 1000000 ∧ (∀ n ∈ s.2.1, WfN n) ∧ s.2.2.dst.length = 16 ∧ okB s.2.2.dst ∧ 0 ≤ s.2.2.router ∧ s.2.2.router ≤ 18446744073709551615) (fun r => (∃ l, r = .inl l ∧ ∀ n ∈ l, WfN n) ∨ r = .inr ([], false)) (fun s => s.1.length) (fun s ⟨i1, i2, i3, i4, i5, i6, i7⟩ => by
    obtain ⟨b, out, st⟩ := s
    dsimp only at i1 i2 i3 i4 i5 i6 i7 ⊢
    match b, i1, i2 with
    | [], _, _ => exact .inr ⟨.inl out, rfl, .inl ⟨out, rfl, i3⟩⟩
    | [x], _, _ => exact .inr ⟨.inr ([], false), rfl, .inr rfl⟩
    | k :: m :: rest, i1, i2 =>
      have hm := i1 m (by simp)
      simp only [List.length_cons] at i2
      by_cases hl : m ≤ rest.length
      rotate_left
      · right
        refine ⟨.inr ([], false), ?_, .inr rfl⟩
        unfold F_messages_parse_l1
        dsimp only
        have e1 : idx (k :: m :: rest) 1 = some m := rfl
        rw [decT (show ((k :: m :: rest).length : Int) > 0 by simp; omega), decF (show ¬ ((k :: m :: rest).length : Int) < 2 by simp; omega), e1]
        simp only [cond_true, cond_false, Option.bind_some]
        rw [wi (x := m) (by omega) (by omega), wi (x := ((k :: m :: rest).length : Int) - 2) (by simp; omega) (by simp; omega), decT (show ((k :: m :: rest).length : Int) - 2 < m by simp; omega)]
        rfl
      by_cases ho : out.length ≤ 64
      rotate_left
      · right
        refine ⟨.inr ([], false), ?_, .inr rfl⟩
        unfold F_messages_parse_l1
        dsimp only
        have e1 : idx (k :: m :: rest) 1 = some m := rfl
        rw [decT (show ((k :: m :: rest).length : Int) > 0 by simp; omega), decF (show ¬ ((k :: m :: rest).length : Int) < 2 by simp; omega), e1]
        simp only [cond_true, cond_false, Option.bind_some]
        rw [wi (x := m) (by omega) (by omega), wi (x := ((k :: m :: rest).length : Int) - 2) (by simp; omega) (by simp; omega), decF (show ¬ ((k :: m :: rest).length : Int) - 2 < m by simp; omega), decT (show ((out.length : Nat) : Int) > 64 by omega)]
        rfl
      have okr : okB rest := fun z hz => i1 z (by simp [hz])
      have okb : okB (rest.take m.toNat) := okB.take okr _
      rw [stepm_p hm hl (by omega) okr ho i4]
      have hw := read_wf okb k ⟨i6, i7⟩ i4 i5
      have n8 := num_bd okb 0 8
      unfold stepM
      split
      · split
        · exact .inl ⟨_, rfl, ⟨okB.drop okr _, by dsimp only; rw [List.length_drop]; omega, i3, i4, i5, by dsimp only; omega, by dsimp only; omega⟩, by dsimp only; rw [List.length_drop]; simp; omega⟩
        · exact .inr ⟨_, rfl, .inr rfl⟩
      · split
        · refine .inl ⟨_, rfl, ⟨okB.drop okr _, by dsimp only; rw [List.length_drop]; omega, ?_, nxD_len i4 hw, ?_, i6, i7⟩, by dsimp only; rw [List.length_drop]; simp; omega⟩
          · intro n hn
            rcases List.mem_append.1 hn with h | h
            · exact i3 n h
            · rw [List.mem_singleton.1 h]; exact hw
          · dsimp only
            unfold nxD
            split
            · exact hw.dst.2
            · exact i5
        · exact .inr ⟨_, rfl, .inr rfl⟩) (b, [], S_messages_state.mk [] 0 ad0) ⟨ok, hb, by simp, rfl, wfP0.2, by dsimp only; omega, by dsimp only; omega⟩
  have e' : loopO F_messages_parse_l1 (b, ([] : List S_Notice), S_messages_state.mk [] 0 [0, 0, 0, 0, 0, 0, 0, 0, 0, 0, 0, 0, 0, 0, 0, 0]) = some r := e
  rw [e']
  rcases hq with ⟨l, rfl, h⟩ | rfl
  · exact .inl ⟨l, rfl, h⟩
  · exact .inr rfl
def bdN (d : List Int) (n : S_Notice) : List Int :=
  if n.Kind = 1 then beB n.Seq 2
  else if n.Kind = 2 then beB n.Neighbour 8 ++ beB n.Metric 2
  else if n.Kind = 3 then [(comm (pfx n.To.Dst) d : Int), n.To.Dst.Bits, n.To.Src.Bits] ++ beB n.Seq 2 ++ beB n.Metric 2 ++ (pfx n.To.Dst).drop (comm (pfx n.To.Dst) d) ++ pfx n.To.Src
  else if n.Kind = 5 then [n.To.Dst.Bits, n.To.Src.Bits] ++ beB n.Seq 2 ++ [n.Hops] ++ beB n.To.Router 8 ++ pfx n.To.Dst ++ pfx n.To.Src
  else [n.To.Dst.Bits, n.To.Src.Bits] ++ pfx n.To.Dst ++ pfx n.To.Src
theorem encN_eq (r : Int) (d : List Int) {n : S_Notice} (g : GoodN n) : encN r d n = (if n.Kind = 3 ∧ n.To.Router ≠ r then el 6 (beB n.To.Router 8) else []) ++ el n.Kind (bdN d n) := by
  unfold encN bdN
  cases g <;> simp
theorem bdN_len (d : List Int) {n : S_Notice} (g : GoodN n) : (bdN d n).length ≤ 50 := by
  have w := good_wf g
  have h1 := pfx_le w.dst
  have h2 := pfx_le w.src
  unfold bdN
  cases g <;> simp [beB_len] at * <;> omega
theorem bdN_ok (d : List Int) {n : S_Notice} (g : GoodN n) : okB (bdN d n) := by
  have w := good_wf g
  have h1 := pfx_ok w.dst
  have h2 := pfx_ok w.src
  have h3 := beB_ok
  have h4 := comm_le (pfx n.To.Dst) d
  have h5 := pfx_le w.dst
  unfold bdN
  cases g with
  | hello s h => exact h3 _ _
  | heard m b h hb h0 => exact okB.append (h3 _ _) (h3 _ _)
  | update s m p c r hs h wd wc vd vc hr h0 =>
    have v1 := vb vd
    have v2 := vb vc
    refine okB.append (okB.append (okB.append (okB.append ?_ (h3 _ _)) (h3 _ _)) (okB.drop h1 _)) h2
    exact okB_cons ⟨by omega, by dsimp only at h4 h5 ⊢; omega⟩ (okB_cons ⟨by dsimp only; omega, by dsimp only; omega⟩ (okB_one ⟨by dsimp only; omega, by dsimp only; omega⟩))
  | route p c wd wc vd vc =>
    have v1 := vb vd
    have v2 := vb vc
    refine okB.append (okB.append ?_ h1) h2
    exact okB_cons ⟨by dsimp only; omega, by dsimp only; omega⟩ (okB_one ⟨by dsimp only; omega, by dsimp only; omega⟩)
  | seqr s h p c r hs hh wd wc vd vc hr h0 =>
    have v1 := vb vd
    have v2 := vb vc
    refine okB.append (okB.append (okB.append (okB.append (okB.append ?_ (h3 _ _)) (okB_one ?_)) (h3 _ _)) h1) h2
    · exact okB_cons ⟨by dsimp only; omega, by dsimp only; omega⟩ (okB_one ⟨by dsimp only; omega, by dsimp only; omega⟩)
    · dsimp only; omega
theorem read_good {n : S_Notice} (g : GoodN n) {r : Int} (hr : n.Kind = 3 → r = n.To.Router) {d : List Int} (hd : d.length = 16) : readS n.Kind (bdN d n) r d = (n, true) := by
  unfold readS
  cases g with
  | hello s h =>
    have e : numB (beB s 2) 0 2 = s := by
      rw [num_eq (i := 0) (n := 2) (a := []) (v := beB s 2) (c := []) (by simp) rfl (beB_len _ _), beN_v h.1 (by omega)]
    simp only [bdN, if_true, e]
  | heard m b h hb h0 =>
    have e1 : numB (beB b 8 ++ beB m 2) 0 8 = b := by
      rw [num_eq (i := 0) (n := 8) (a := []) (v := beB b 8) (c := beB m 2) (by simp) rfl (beB_len _ _), beN_v hb.1 (by omega)]
    have e2 : numB (beB b 8 ++ beB m 2) 8 2 = m := by
      rw [num_eq (i := 8) (n := 2) (a := beB b 8) (v := beB m 2) (c := []) (by simp) (beB_len _ _) (beB_len _ _), beN_v h.1 (by omega)]
    simp only [bdN, show ¬ ((2 : Int) = 1) by omega, if_true, if_false, e1, e2]
  | update s m p c r' hs h wd wc vd vc hr' h0 =>
    have v1 := vb vd
    have v2 := vb vc
    have c1 := comm_le (pfx p) d
    have lp := pfx_len wd vd
    have lc := pfx_len wc vc
    have hbd : bdN d (S_Notice.mk 3 s m 0 (S_Destination.mk p c r') 0) = [(comm (pfx p) d : Int), p.Bits, c.Bits] ++ beB s 2 ++ beB m 2 ++ (pfx p).drop (comm (pfx p) d) ++ pfx c := rfl
    rw [hbd, hr rfl]
    generalize hK : comm (pfx p) d = K at *
    generalize hB : [(K : Int), p.Bits, c.Bits] ++ beB s 2 ++ beB m 2 ++ (pfx p).drop K ++ pfx c = B
    have e0 : numB B 0 1 = (K : Int) := by
      rw [num_eq (i := 0) (n := 1) (a := []) (v := [(K : Int)]) (c := [p.Bits, c.Bits] ++ beB s 2 ++ beB m 2 ++ (pfx p).drop K ++ pfx c) (by rw [← hB]; simp) rfl rfl, beN_one]
    have e1 : numB B 1 1 = p.Bits := by
      rw [num_eq (i := 1) (n := 1) (a := [(K : Int)]) (v := [p.Bits]) (c := [c.Bits] ++ beB s 2 ++ beB m 2 ++ (pfx p).drop K ++ pfx c) (by rw [← hB]; simp) rfl rfl, beN_one]
    have e2 : numB B 2 1 = c.Bits := by
      rw [num_eq (i := 2) (n := 1) (a := [(K : Int), p.Bits]) (v := [c.Bits]) (c := beB s 2 ++ beB m 2 ++ (pfx p).drop K ++ pfx c) (by rw [← hB]; simp) rfl rfl, beN_one]
    have e3 : numB B 3 2 = s := by
      rw [num_eq (i := 3) (n := 2) (a := [(K : Int), p.Bits, c.Bits]) (v := beB s 2) (c := beB m 2 ++ (pfx p).drop K ++ pfx c) (by rw [← hB]; simp) rfl (beB_len _ _), beN_v hs.1 (by omega)]
    have e5 : numB B 5 2 = m := by
      rw [num_eq (i := 5) (n := 2) (a := [(K : Int), p.Bits, c.Bits] ++ beB s 2) (v := beB m 2) (c := (pfx p).drop K ++ pfx c) (by rw [← hB]; simp) (by simp [beB_len]) (beB_len _ _), beN_v h.1 (by omega)]
    have hlen : B.length = 7 + (sz p.Bits - K) + sz c.Bits := by
      rw [← hB]
      simp only [List.length_append, List.length_cons, List.length_nil, beB_len, List.length_drop, lp, lc]
    have hdrop : B.drop 7 = (pfx p).drop K ++ pfx c := by
      have : ([(K : Int), p.Bits, c.Bits] ++ beB s 2 ++ beB m 2).length = 7 := by simp [beB_len]
      rw [← hB, List.append_assoc, ← this, List.drop_left]
    have e6 : dstL d B p.Bits (K : Int) 7 = p.IP := by
      unfold dstL
      have hk2 := comm_take (pfx p) d
      rw [hK] at hk2
      have t1 : ((pfx p).drop K).take (sz p.Bits - K) = (pfx p).drop K := List.take_of_length_le (by rw [List.length_drop]; omega)
      rw [hdrop, Int.toNat_natCast, ← hk2, List.take_append_of_le_length (by rw [List.length_drop]; omega), t1, List.take_append_drop]
      exact pfx_fill wd vd
    have e7 : srcL B p.Bits (K : Int) 7 = c.IP := by
      unfold srcL
      rw [Int.toNat_natCast, ← List.drop_drop, hdrop, List.drop_append_of_le_length (by rw [List.length_drop]; omega), List.drop_of_length_le (by rw [List.length_drop]; omega), List.nil_append]
      exact pfx_fill wc vc
    have hf : fits p.Bits c.Bits (K : Int) B.length 7 := ⟨v1.2, v2.2, by omega, by omega, by rw [hlen]; omega⟩
    simp only [e0, e1, e2, e3, e5, e6, e7, if_pos hf, show ¬ ((3 : Int) = 1) by omega, show ¬ ((3 : Int) = 2) by omega, if_true, if_false]
  | route p c wd wc vd vc =>
    have v1 := vb vd
    have v2 := vb vc
    have lp := pfx_len wd vd
    have lc := pfx_len wc vc
    have hbd : bdN d (S_Notice.mk 4 0 0 0 (S_Destination.mk p c 0) 0) = [p.Bits, c.Bits] ++ pfx p ++ pfx c := rfl
    rw [hbd]
    generalize hB : [p.Bits, c.Bits] ++ pfx p ++ pfx c = B
    have e1 : numB B 0 1 = p.Bits := by
      rw [num_eq (i := 0) (n := 1) (a := []) (v := [p.Bits]) (c := [c.Bits] ++ pfx p ++ pfx c) (by rw [← hB]; simp) rfl rfl, beN_one]
    have e2 : numB B 1 1 = c.Bits := by
      rw [num_eq (i := 1) (n := 1) (a := [p.Bits]) (v := [c.Bits]) (c := pfx p ++ pfx c) (by rw [← hB]; simp) rfl rfl, beN_one]
    have hlen : B.length = 2 + (sz p.Bits - 0) + sz c.Bits := by
      rw [← hB]
      simp only [List.length_append, List.length_cons, List.length_nil, lp, lc]
      omega
    have hdrop : B.drop 2 = pfx p ++ pfx c := by
      rw [← hB]
      rfl
    have e6 : dstL d B p.Bits 0 2 = p.IP := by
      unfold dstL
      have t1 : (pfx p ++ pfx c).take (sz p.Bits - Int.toNat 0) = pfx p := by rw [show sz p.Bits - Int.toNat 0 = (pfx p).length by rw [lp]; rfl, List.take_left]
      rw [hdrop, t1]
      exact pfx_fill wd vd
    have e7 : srcL B p.Bits 0 2 = c.IP := by
      unfold srcL
      have t1 : (pfx p ++ pfx c).drop (sz p.Bits - Int.toNat 0) = pfx c := by rw [show sz p.Bits - Int.toNat 0 = (pfx p).length by rw [lp]; rfl, List.drop_left]
      rw [← List.drop_drop, hdrop, t1]
      exact pfx_fill wc vc
    have hf : fits p.Bits c.Bits 0 B.length 2 := ⟨v1.2, v2.2, by omega, by omega, hlen⟩
    simp only [e1, e2, e6, e7, if_pos hf, show ¬ ((4 : Int) = 1) by omega, show ¬ ((4 : Int) = 2) by omega, show ¬ ((4 : Int) = 3) by omega, if_true, if_false]
  | seqr s h p c r' hs hh wd wc vd vc hr' h0 =>
    have v1 := vb vd
    have v2 := vb vc
    have lp := pfx_len wd vd
    have lc := pfx_len wc vc
    have hbd : bdN d (S_Notice.mk 5 s 0 0 (S_Destination.mk p c r') h) = [p.Bits, c.Bits] ++ beB s 2 ++ [h] ++ beB r' 8 ++ pfx p ++ pfx c := rfl
    rw [hbd]
    generalize hB : [p.Bits, c.Bits] ++ beB s 2 ++ [h] ++ beB r' 8 ++ pfx p ++ pfx c = B
    have e1 : numB B 0 1 = p.Bits := by
      rw [num_eq (i := 0) (n := 1) (a := []) (v := [p.Bits]) (c := [c.Bits] ++ beB s 2 ++ [h] ++ beB r' 8 ++ pfx p ++ pfx c) (by rw [← hB]; simp) rfl rfl, beN_one]
    have e2 : numB B 1 1 = c.Bits := by
      rw [num_eq (i := 1) (n := 1) (a := [p.Bits]) (v := [c.Bits]) (c := beB s 2 ++ [h] ++ beB r' 8 ++ pfx p ++ pfx c) (by rw [← hB]; simp) rfl rfl, beN_one]
    have e3 : numB B 2 2 = s := by
      rw [num_eq (i := 2) (n := 2) (a := [p.Bits, c.Bits]) (v := beB s 2) (c := [h] ++ beB r' 8 ++ pfx p ++ pfx c) (by rw [← hB]; simp) rfl (beB_len _ _), beN_v hs.1 (by omega)]
    have e4 : numB B 4 1 = h := by
      rw [num_eq (i := 4) (n := 1) (a := [p.Bits, c.Bits] ++ beB s 2) (v := [h]) (c := beB r' 8 ++ pfx p ++ pfx c) (by rw [← hB]; simp) (by simp [beB_len]) rfl, beN_one]
    have e5 : numB B 5 8 = r' := by
      rw [num_eq (i := 5) (n := 8) (a := [p.Bits, c.Bits] ++ beB s 2 ++ [h]) (v := beB r' 8) (c := pfx p ++ pfx c) (by rw [← hB]; simp) (by simp [beB_len]) (beB_len _ _), beN_v hr'.1 (by omega)]
    have hlen : B.length = 13 + (sz p.Bits - 0) + sz c.Bits := by
      rw [← hB]
      simp only [List.length_append, List.length_cons, List.length_nil, beB_len, lp, lc]
      omega
    have hdrop : B.drop 13 = pfx p ++ pfx c := by
      have : ([p.Bits, c.Bits] ++ beB s 2 ++ [h] ++ beB r' 8).length = 13 := by simp [beB_len]
      rw [← hB, List.append_assoc, ← this, List.drop_left]
    have e6 : dstL d B p.Bits 0 13 = p.IP := by
      unfold dstL
      have t1 : (pfx p ++ pfx c).take (sz p.Bits - Int.toNat 0) = pfx p := by rw [show sz p.Bits - Int.toNat 0 = (pfx p).length by rw [lp]; rfl, List.take_left]
      rw [hdrop, t1]
      exact pfx_fill wd vd
    have e7 : srcL B p.Bits 0 13 = c.IP := by
      unfold srcL
      have t1 : (pfx p ++ pfx c).drop (sz p.Bits - Int.toNat 0) = pfx c := by rw [show sz p.Bits - Int.toNat 0 = (pfx p).length by rw [lp]; rfl, List.drop_left]
      rw [← List.drop_drop, hdrop, t1]
      exact pfx_fill wc vc
    have hf : fits p.Bits c.Bits 0 B.length 13 := ⟨v1.2, v2.2, by omega, by omega, hlen⟩
    simp only [e1, e2, e3, e4, e5, e6, e7, if_pos hf, show ¬ ((5 : Int) = 1) by omega, show ¬ ((5 : Int) = 2) by omega, show ¬ ((5 : Int) = 3) by omega, show ¬ ((5 : Int) = 4) by omega, if_true, if_false]
theorem step_el {k : Int} {b t : List Int} (hb : b.length ≤ 255) (ht : t.length ≤ 900000) (ob : okB b) (ot : okB t) {out : List S_Notice} (ho : out.length ≤ 64) {s : S_messages_state} (hd : s.dst.length = 16) :
    F_messages_parse_l1 (el k b ++ t, out, s) = some (stepM k b t out s) := by
  have := stepm_p (k := k) (m := (b.length : Int)) (rest := b ++ t) (by omega) (by rw [List.length_append]; omega) (by rw [List.length_append]; omega) (okB.append ob ot) ho hd
  rw [Int.toNat_natCast, List.take_left, List.drop_left] at this
  exact this
theorem encL_ok : ∀ (l : List S_Notice) (r : Int) (d : List Int), (∀ n ∈ l, GoodN n) → okB (encL r d l)
  | [], _, _, _ => okB_nil
  | n :: l, r, d, g => by
    have gn := g n (by simp)
    rw [encL, encN_eq r d gn]
    have hl := bdN_len d gn
    have hk : 0 ≤ n.Kind ∧ n.Kind ≤ 255 := by cases gn <;> simp
    refine okB.append (okB.append ?_ ?_) (encL_ok l _ _ fun m hm => g m (by simp [hm]))
    · split
      · exact okB_cons (by omega) (okB_cons (by rw [beB_len]; omega) (beB_ok _ _))
      · exact okB_nil
    · exact okB_cons hk (okB_cons (by omega) (bdN_ok d gn))
theorem parse_enc : ∀ (l : List S_Notice) (out : List S_Notice) (r : Int) (d e t : List Int), (∀ n ∈ l, GoodN n) → out.length + l.length ≤ 64 → d.length = 16 → t.length ≤ 100000 → okB t →
    loopO F_messages_parse_l1 (encL r d l ++ t, out, S_messages_state.mk e r d) = loopO F_messages_parse_l1 (t, out ++ l, S_messages_state.mk e (l.foldl nxR r) (l.foldl nxD d))
  | [], out, r, d, e, t, _, _, _, _, _ => by simp [encL]
  | n :: l, out, r, d, e, t, g, hn, hd, ht, ot => by
    have gn := g n (by simp)
    have gl : ∀ m ∈ l, GoodN m := fun m hm => g m (by simp [hm])
    simp only [List.length_cons] at hn
    have ih := parse_enc l (out ++ [n]) (nxR r n) (nxD d n) e t gl (by simp; omega) (nxD_len hd (good_wf gn)) ht ot
    have hlen := encL_len (nxR r n) (nxD d n) l gl
    have hT : (encL (nxR r n) (nxD d n) l ++ t).length ≤ 200000 := by rw [List.length_append]; omega
    have oT : okB (encL (nxR r n) (nxD d n) l ++ t) := okB.append (encL_ok l _ _ gl) ot
    have hbl := bdN_len d gn
    have hbo := bdN_ok d gn
    have main : loopO F_messages_parse_l1 (el n.Kind (bdN d n) ++ (encL (nxR r n) (nxD d n) l ++ t), out, S_messages_state.mk e (nxR r n) d) = loopO F_messages_parse_l1 (encL (nxR r n) (nxD d n) l ++ t, out ++ [n], S_messages_state.mk e (nxR r n) (nxD d n)) := by
      refine loop_next ?_
      rw [step_el (by omega) (by omega) hbo oT (by omega) hd]
      have hk6 : ¬ n.Kind = 6 := by cases gn <;> simp
      have hr := read_good gn (r := nxR r n) (fun h => by unfold nxR; rw [if_pos h]) hd
      unfold stepM
      rw [if_neg hk6]
      dsimp only
      rw [hr]
      simp
    rw [encL, encN_eq r d gn, List.append_assoc, List.append_assoc]
    have fin : out ++ [n] ++ l = out ++ n :: l := by simp
    rw [fin] at ih
    by_cases h6 : n.Kind = 3 ∧ n.To.Router ≠ r
    · rw [if_pos h6]
      have hro := (good_wf gn).ro
      have hnr : nxR r n = n.To.Router := by unfold nxR; rw [if_pos h6.1]
      have first : loopO F_messages_parse_l1 (el 6 (beB n.To.Router 8) ++ (el n.Kind (bdN d n) ++ (encL (nxR r n) (nxD d n) l ++ t)), out, S_messages_state.mk e r d) = loopO F_messages_parse_l1 (el n.Kind (bdN d n) ++ (encL (nxR r n) (nxD d n) l ++ t), out, S_messages_state.mk e (nxR r n) d) := by
        refine loop_next ?_
        have hk : 0 ≤ n.Kind ∧ n.Kind ≤ 255 := by cases gn <;> simp
        have oke : okB (el n.Kind (bdN d n)) := okB_cons hk (okB_cons (by omega) hbo)
        rw [step_el (k := 6) (b := beB n.To.Router 8) (by rw [beB_len]; omega) (by rw [List.length_append, el_len]; omega) (beB_ok _ _) (okB.append oke oT) (by omega) hd]
        unfold stepM
        rw [if_pos rfl, if_pos (by rw [beB_len]; omega), num_eq (i := 0) (n := 8) (a := []) (v := beB n.To.Router 8) (c := []) (by simp) rfl (beB_len _ _), beN_v hro.1 (by omega), hnr]
      rw [first, main, ih]
      rfl
    · rw [if_neg h6, List.nil_append]
      have hnr : nxR r n = r := by
        unfold nxR
        split
        · rename_i h3
          have : ¬ n.To.Router ≠ r := fun h => h6 ⟨h3, h⟩
          simpa using this
        · rfl
      rw [hnr] at main ih ⊢
      rw [main, ih]
      rw [List.foldl_cons, List.foldl_cons, hnr]
theorem parse_back {l : List S_Notice} (g : ∀ n ∈ l, GoodN n) (hl : l.length ≤ 64) : F_messages_parse (encL 0 ad0 l) = some (l, true) := by
  unfold F_messages_parse
  have h := parse_enc l [] 0 ad0 [] [] g (by simpa using hl) rfl (by simp) okB_nil
  rw [List.append_nil, List.nil_append] at h
  have h' : loopO F_messages_parse_l1 (encL 0 ad0 l, ([] : List S_Notice), S_messages_state.mk [] 0 [0, 0, 0, 0, 0, 0, 0, 0, 0, 0, 0, 0, 0, 0, 0, 0]) = some (.inl l) := by
    refine Eq.trans h (loop_done ?_)
    rfl
  rw [h']
  rfl
end
section
open Go.RowKit

def okR (k : Int) (b : List Int) : Prop := (k = 1 ∧ b.length = 2) ∨ (k = 2 ∧ b.length = 10) ∨ (k = 3 ∧ 7 ≤ b.length) ∨ (k = 4 ∧ 2 ≤ b.length) ∨ (k = 5 ∧ 13 ≤ b.length)
instance (k : Int) (b : List Int) : Decidable (okR k b) := by unfold okR; infer_instance
theorem sub_n {b : List Int} (a : Nat) (ha : a ≤ b.length) : subO b a (b.length : Int) = some (b.drop a) := by
  rw [subO_some (by omega) (by omega) (by omega)]
  simp
end
section
open Go.RowKit

/-- the packet of this time and these notices -/
structure Pk (at_ : Int) (l : List S_Notice) : Prop where
  good : ∀ n ∈ l, GoodN n
  len : l.length ≤ 64
  lo : 0 ≤ at_
  hi : at_ < 1099511627776
theorem Pk.enc {at_ : Int} {l : List S_Notice} (h : Pk at_ l) : encS at_ l = (pk at_ l, 0) := by
  unfold encS
  have := h.len
  have := h.lo
  have := h.hi
  rw [if_neg (by omega), good_all h.good, if_neg (by simp), if_neg (by omega)]
theorem enc_pk {at_ : Int} {l : List S_Notice} (w : ∀ n ∈ l, WfN n) (h : (encS at_ l).2 = 0) : Pk at_ l := by
  unfold encS at h
  split at h
  · simp at h
  split at h
  · simp at h
  split at h
  · simp at h
  · rename_i h1 h2 h3
    exact ⟨all_good w (by simpa using h2), by omega, by omega, by omega⟩
theorem pk_ok {at_ : Int} {l : List S_Notice} (h : Pk at_ l) : okB (pk at_ l) := by
  unfold pk
  exact okB.append (okB.append (okB.append (okB_cons (by omega) (okB_one (by omega))) (beB_ok _ _)) (beB_ok _ _)) (encL_ok _ _ _ h.good)
theorem pk_small {at_ : Int} {l : List S_Notice} (h : Pk at_ l) : (pk at_ l).length ≤ 3273 ∧ 9 ≤ (pk at_ l).length := by
  have := encL_len 0 ad0 l h.good
  have := h.len
  rw [pk_len]
  omega
theorem pk_at {at_ : Int} {l : List S_Notice} (h : Pk at_ l) : beN (((pk at_ l).drop 2).take 5) = at_ := by
  have e : ((pk at_ l).drop 2).take 5 = beB at_ 5 := by
    have e0 : (pk at_ l).drop 2 = beB at_ 5 ++ (beB ((encL 0 ad0 l).length : Int) 2 ++ encL 0 ad0 l) := by
      unfold pk
      rw [List.append_assoc, List.append_assoc]
      rfl
    rw [e0, List.take_append_of_le_length (by rw [beB_len]; omega), List.take_of_length_le (by rw [beB_len]; omega)]
  rw [e, beN_v h.lo (by have := h.hi; omega)]
theorem pk_size {at_ : Int} {l : List S_Notice} (h : Pk at_ l) (t : List Int) : beN (((pk at_ l ++ t).drop 7).take 2) = ((encL 0 ad0 l).length : Int) := by
  have e : ((pk at_ l ++ t).drop 7).take 2 = beB ((encL 0 ad0 l).length : Int) 2 := by
    have h7 : ([42, 1] ++ beB at_ 5).length = 7 := by simp [beB_len]
    unfold pk
    rw [List.append_assoc, List.append_assoc, ← h7, List.drop_left, List.take_append_of_le_length (by rw [beB_len]; omega), List.take_of_length_le (by rw [beB_len]; omega)]
  have := encL_len 0 ad0 l h.good
  have := h.len
  rw [e, beN_v (by omega) (by omega)]
theorem pk_rest {at_ : Int} {l : List S_Notice} (t : List Int) : (pk at_ l ++ t).drop 9 = encL 0 ad0 l ++ t := by
  have h9 : ([42, 1] ++ beB at_ 5 ++ beB ((encL 0 ad0 l).length : Int) 2).length = 9 := by simp [beB_len]
  unfold pk
  rw [List.append_assoc, ← h9, List.drop_left]
def short (b : List Int) : Prop := b.length < 9 ∨ (b.length : Int) - 9 < beN ((b.drop 7).take 2)
theorem pk_not_short {at_ : Int} {l : List S_Notice} (h : Pk at_ l) : ¬ short (pk at_ l) := by
  have := pk_small h
  have hs := pk_size h []
  rw [List.append_nil] at hs
  unfold short
  rw [hs, pk_len]
  omega
theorem equal_spec {a b : List Int} (ha : okB a) (hb : okB b) : F_bytes_Equal a b = some (decide (a = b)) := by
  unfold F_bytes_Equal
  simp only [Cut.app]
  rw [u8L_beq ha hb]
theorem dec_p {b : List Int} (ok : okB b) (hb : b.length ≤ 1000000) : (short b → F_messages_Decode b = some (0, [], 4)) ∧
    (∀ at_ l, Pk at_ l → b = pk at_ l → F_messages_Decode b = some (at_, l, 0)) ∧
    (¬ short b → (¬ ∃ at_ l, Pk at_ l ∧ b = pk at_ l) → F_messages_Decode b = some (0, [], 5)) := by
  by_cases h9 : b.length < 9
  · have hs : short b := .inl h9
    refine ⟨fun _ => ?_, fun at_ l hp he => ?_, fun hn => absurd hs hn⟩
    · unfold F_messages_Decode
      rw [decT (show (b.length : Int) < 9 by omega)]
      rfl
    · rw [he] at hs
      exact absurd hs (pk_not_short hp)
  have u1 := uint_some ok (by omega) 2 5 (by omega) (by omega) (by omega)
  have u2 := uint_some ok (by omega) 7 2 (by omega) (by omega) (by omega)
  simp only [show ((2 : Nat) : Int) = 2 from rfl, show ((5 : Nat) : Int) = 5 from rfl, show ((7 : Nat) : Int) = 7 from rfl] at u1 u2
  have bd1 := beN_bd (l := (b.drop 2).take 5) (okB.take (okB.drop ok _) _)
  have bd2 := beN_bd (l := (b.drop 7).take 2) (okB.take (okB.drop ok _) _)
  rw [List.length_take, List.length_drop, Nat.min_eq_left (by omega)] at bd1 bd2
  have hsub := sub_n (b := b) 9 (by omega)
  simp only [show ((9 : Nat) : Int) = 9 from rfl] at hsub
  have base : F_messages_Decode b = (bif decide ((b.length : Int) - 9 < beN ((b.drop 7).take 2)) then some (0, [], 4) else (F_messages_parse (b.drop 9)).bind fun v6 => bif v6.2 then (F_messages_Encode (beN ((b.drop 2).take 5)) v6.1).bind fun v8 => bif v8.2 != 0 then some (0, [], 5) else (F_bytes_Equal v8.1 b).bind fun v10 => bif v10 then some (beN ((b.drop 2).take 5), v6.1, 0) else some (0, [], 5) else some (0, [], 5)) := by
    unfold F_messages_Decode
    rw [decF (show ¬ (b.length : Int) < 9 by omega), u1, u2, hsub]
    simp only [cond_false, Option.bind_some]
    rw [wi (x := (b.length : Int) - 9) (by omega) (by omega), wi (x := beN ((b.drop 7).take 2)) (by omega) (by omega), wi (x := beN ((b.drop 2).take 5)) (by omega) (by omega)]
  rw [base]
  by_cases hs2 : (b.length : Int) - 9 < beN ((b.drop 7).take 2)
  · have hs : short b := .inr hs2
    refine ⟨fun _ => ?_, fun at_ l hp he => ?_, fun hn => absurd hs hn⟩
    · rw [decT hs2]
      rfl
    · rw [he] at hs
      exact absurd hs (pk_not_short hp)
  have hns : ¬ short b := by unfold short; omega
  rw [decF hs2, cond_false]
  refine ⟨fun h => absurd h hns, fun at_ l hp he => ?_, fun _ hno => ?_⟩
  · have e9 := pk_rest (at_ := at_) (l := l) []
    rw [List.append_nil, List.append_nil, ← he] at e9
    have ea := pk_at hp
    rw [← he] at ea
    rw [e9, parse_back hp.good hp.len, ea]
    simp only [Option.bind_some, cond_true]
    rw [enc_p (fun n hn => good_wf (hp.good n hn)), hp.enc]
    simp only [Option.bind_some]
    rw [show ((0 : Int) != 0) = false from rfl, cond_false, equal_spec (pk_ok hp) ok, ← he]
    simp
  · rcases parse_tot (okB.drop ok 9) (by rw [List.length_drop]; omega) with ⟨l, e, w⟩ | e
    · rw [e]
      simp only [Option.bind_some, cond_true]
      rw [enc_p w, Option.bind_some]
      by_cases h0 : (encS (beN ((b.drop 2).take 5)) l).2 = 0
      · have hp := enc_pk w h0
        rw [hp.enc]
        simp only
        rw [show ((0 : Int) != 0) = false from rfl, cond_false, equal_spec (pk_ok hp) ok, decF (fun he => hno ⟨_, l, hp, he.symm⟩)]
        rfl
      · rw [show ((encS (beN ((b.drop 2).take 5)) l).2 != 0) = true by simpa using h0]
        rfl
    · rw [e]
      rfl
end
section
open Go.RowKit

structure TapeOk (t : S_multihopmade_Tape) : Prop where
  at0 : 0 ≤ t.at_
  at1 : t.at_ ≤ t.l.length
  len : t.l.length ≤ 400
theorem new_spec (l : List Int) : ∃ t, F_made_New l = some t ∧ TapeOk t := by
  unfold F_made_New F_made_New_j1
  by_cases h : (l.length : Int) > 400
  · rw [decT h, subO_some (by omega) (by omega) (by omega)]
    exact ⟨_, rfl, by simp, by simp, by simp; omega⟩
  · rw [decF h]
    exact ⟨_, rfl, by simp, by simp, by simp; omega⟩
theorem rem_spec (x n : Int) (h1 : 1 ≤ n) (h2 : n ≤ 4611686018427387904) : -4611686018427387904 < Int.tmod x n ∧ Int.tmod x n < n ∧ -n < Int.tmod x n := by
  have a := Int.tmod_lt_of_pos x (show 0 < n by omega)
  have b := Int.lt_tmod_of_pos x (show 0 < n by omega)
  omega
theorem next_spec {t : S_multihopmade_Tape} (h : TapeOk t) (n : Int) (h1 : 1 ≤ n) (h2 : n ≤ 4611686018427387904) : ∃ v t', F_made_Tape_Next t n = some (v, t') ∧ 0 ≤ v ∧ v < n ∧ TapeOk t' := by
  unfold F_made_Tape_Next F_made_Tape_Next_j1
  have a0 := h.at0
  have a1 := h.at1
  have a2 := h.len
  by_cases hc : t.at_ ≥ (t.l.length : Int)
  · rw [decT hc]
    exact ⟨0, t, rfl, by omega, by omega, h⟩
  · rw [decF hc, idx_int a0 (by omega)]
    simp only [cond_false, Option.bind_some, show decide (n ≠ 0) = true by simp; omega, cond_true]
    obtain ⟨r1, r2, r3⟩ := rem_spec (t.l[t.at_.toNat]'(by omega)) n h1 h2
    generalize Int.tmod (t.l[t.at_.toNat]'(by omega)) n = q at *
    have ew : IntKind.wrap .i64 (t.at_ + 1) = t.at_ + 1 := wi (by omega) (by omega)
    have hok : TapeOk ⟨t.l, t.at_ + 1⟩ := ⟨by dsimp only; omega, by dsimp only; omega, h.len⟩
    rw [ew]
    by_cases hq : q < 0
    · rw [decT hq, wi (by omega) (by omega)]
      exact ⟨q + n, _, rfl, by omega, by omega, hok⟩
    · rw [decF hq]
      exact ⟨q, _, rfl, by omega, by omega, hok⟩
end
section
open Go.RowKit
theorem mod_spec (x n : Int) (h1 : 1 ≤ n) (h2 : n ≤ 4611686018427387904) : ∃ v, F_made_Mod x n = some v ∧ 0 ≤ v ∧ v < n := by
  unfold F_made_Mod F_made_Mod_j1
  obtain ⟨r1, r2, r3⟩ := rem_spec x n h1 h2
  generalize Int.tmod x n = q at *
  rw [show decide (n ≠ 0) = true by simp; omega]
  by_cases hq : q < 0
  · rw [decT hq, wi (by omega) (by omega)]
    exact ⟨q + n, rfl, by omega, by omega⟩
  · rw [decF hq]
    exact ⟨q, rfl, by omega, by omega⟩
end
section
open Go.RowKit

theorem bool_spec {t : S_multihopmade_Tape} (h : TapeOk t) (n : Int) (h1 : 1 ≤ n) (h2 : n ≤ 4611686018427387904) : ∃ v t', F_made_Tape_Bool t n = some (v, t') ∧ TapeOk t' := by
  unfold F_made_Tape_Bool
  obtain ⟨v, t', e, _, _, k⟩ := next_spec h n h1 h2
  rw [e]
  exact ⟨_, _, rfl, k⟩
end
section
open Go.RowKit

theorem word_spec {t : S_multihopmade_Tape} (h : TapeOk t) : ∃ v t', F_made_Tape_Word t = some (v, t') ∧ TapeOk t' := by
  unfold F_made_Tape_Word
  obtain ⟨v1, t1, e1, _, _, k1⟩ := next_spec h 65536 (by omega) (by omega)
  obtain ⟨v2, t2, e2, _, _, k2⟩ := next_spec k1 5 (by omega) (by omega)
  simp only [e1, e2, Option.bind_some]
  cases v2 == 0
  · cases v2 == 1
    · cases v2 == 2
      · cases v2 == 3
        · exact ⟨_, _, rfl, k2⟩
        · exact ⟨_, _, rfl, k2⟩
      · exact ⟨_, _, rfl, k2⟩
    · exact ⟨_, _, rfl, k2⟩
  · exact ⟨_, _, rfl, k2⟩
end
section
open Go.RowKit

theorem eui_spec {t : S_multihopmade_Tape} (h : TapeOk t) : ∃ v t', F_world_EUI t = some (v, t') ∧ 1 ≤ v ∧ v ≤ 5 ∧ TapeOk t' := by
  unfold F_world_EUI
  obtain ⟨v1, t1, e1, a1, b1, k1⟩ := next_spec h 5 (by omega) (by omega)
  rw [e1]
  simp only [Option.bind_some]
  rw [wi (by omega) (by omega), wu (by omega) (by omega)]
  exact ⟨_, t1, rfl, by omega, by omega, k1⟩
theorem ip_spec {t : S_multihopmade_Tape} (h : TapeOk t) : ∃ v t', F_world_IP t = some (v, t') ∧ v.length = 16 ∧ Bytes v ∧ TapeOk t' := by
  unfold F_world_IP F_world_IP_j1
  obtain ⟨v1, t1, e1, a1, b1, k1⟩ := next_spec h 2 (by omega) (by omega)
  obtain ⟨v2, t2, e2, a2, b2, k2⟩ := next_spec k1 2 (by omega) (by omega)
  obtain ⟨v3, t3, e3, a3, b3, k3⟩ := next_spec k2 6 (by omega) (by omega)
  obtain ⟨v4, t4, e4, k4⟩ := bool_spec k3 9 (by omega) (by omega)
  obtain ⟨v5, t5, e5, a5, b5, k5⟩ := next_spec k4 16 (by omega) (by omega)
  obtain ⟨v6, t6, e6, a6, b6, k6⟩ := next_spec k5 8 (by omega) (by omega)
  simp only [e1, Option.bind_some, e2, e3, e4, e5, e6]
  have w1 := wrap8_bd v1
  have w2 := wrap8_bd v2
  have w3 := wrap8_bd v3
  have hB : Bytes [32, 1, 13, 184, 0, IntKind.wrap .u8 v1, IntKind.wrap .u8 v2, 0, 0, 0, 0, 0, 0, 0, 0, IntKind.wrap .u8 v3] := by
    intro z hz
    simp only [List.mem_cons, List.not_mem_nil, or_false] at hz
    omega
  cases v4 with
  | false => exact ⟨_, t4, rfl, rfl, hB, k4⟩
  | true =>
    rw [decT (show (0 : Int) ≤ v5 ∧ v5 < 16 by omega), wu (x := v6) (by omega) (by omega), decT (show (0 : Int) ≤ v6 by omega)]
    refine ⟨_, t6, rfl, setA_len _ _ _ _, ?_, k6⟩
    rw [setA_set (n := 16) rfl]
    exact set_bytes hB _ (wrap8_bd _)
theorem or_bit0 : ∀ x : Fin 256, ∀ v : Fin 2, ∀ j : Fin 8, ∀ l : Fin 8, (l ≠ j → bit8 (ior .u8 ((x : Nat) : Int) (ishl .u8 ((v : Nat) : Int) (7 - ((j : Nat) : Int)))) l = bit8 ((x : Nat) : Int) l) := by decide +kernel
theorem or_bit {x v : Int} (hx : 0 ≤ x ∧ x ≤ 255) (hv : v = 0 ∨ v = 1) {j l : Nat} (hj : j < 8) (hl : l < 8) (h : l ≠ j) : bit8 (ior .u8 x (ishl .u8 v (7 - (j : Int)))) l = bit8 x l := by
  obtain ⟨x, rfl⟩ := byte_fin hx
  have := or_bit0 x
  rcases hv with rfl | rfl
  · exact this 0 ⟨j, hj⟩ ⟨l, hl⟩ (by intro e; exact h (by simpa using e))
  · exact this 1 ⟨j, hj⟩ ⟨l, hl⟩ (by intro e; exact h (by simpa using e))
theorem mask_good {a : List Int} (ha : Bytes a) (b : Int) : ∃ p, F_ref04_Mask a b = some p ∧ wfP p ∧ vpB p = true := by
  unfold F_ref04_Mask
  generalize hc : (if (128 : Int) < if b < 0 then 0 else b then 128 else if b < 0 then 0 else b) = c
  have hc0 : 0 ≤ c ∧ c ≤ 128 := by rw [← hc]; split <;> split at * <;> omega
  obtain ⟨r, e, hr⟩ := loop_inv (step := F_ref04_Mask_l1 b a) (fun s => 0 ≤ s.1 ∧ s.1 ≤ c ∧ wfP s.2 ∧ s.2.Bits = c ∧ ∀ k : Nat, k < 128 → s.1 ≤ (k : Int) → bitA s.2.IP k = 0) (fun p => wfP p ∧ vpB p = true) (fun s => (c - s.1).toNat) (by
    rintro ⟨i, p⟩ ⟨h0, h1, hp, hB, hz⟩
    dsimp only at h0 h1 hp hB hz
    unfold F_ref04_Mask_l1
    dsimp only
    rw [hc]
    by_cases hi : i < c
    · left
      obtain ⟨k, rfl⟩ : ∃ k : Nat, i = (k : Int) := ⟨i.toNat, by omega⟩
      rw [decT hi, quo8 k (by omega), sh7 k, bit_eq _ (by omega), wk k (by omega), decT (show (0 : Int) ≤ ((k / 8 : Nat) : Int) ∧ ((k / 8 : Nat) : Int) < 16 by omega), decT (show (0 : Int) ≤ 7 - ((k % 8 : Nat) : Int) by omega)]
      refine ⟨_, rfl, ⟨by dsimp only; omega, by dsimp only; omega, ⟨setA_len _ _ _ _, ?_⟩, hB, ?_⟩, by dsimp only; omega⟩
      · dsimp only
        rw [setA_set hp.1]
        exact set_bytes hp.2 _ (wrap8_bd _)
      · intro m hm hkm
        dsimp only at hkm ⊢
        have hold := hz m hm (by omega)
        have hv : bitA a k = 0 ∨ bitA a k = 1 := by unfold bitA; exact bit8_01 (getD_byte ha _) (by omega)
        generalize bitA a k = V at hv ⊢
        unfold bitA at hold ⊢
        rw [Int.toNat_natCast, setA_set hp.1]
        have hlen : m / 8 < p.IP.length := by rw [hp.1]; omega
        by_cases h8 : m / 8 = k / 8
        · have hg : (p.IP.set (k / 8) (ior .u8 (p.IP.getD (k / 8) 0) (ishl .u8 V (7 - ((k % 8 : Nat) : Int))))).getD (m / 8) 0 = ior .u8 (p.IP.getD (k / 8) 0) (ishl .u8 V (7 - ((k % 8 : Nat) : Int))) := by
            rw [h8, List.getD_eq_getElem?_getD, List.getElem?_set_self (by omega)]
            rfl
          rw [hg, or_bit (getD_byte hp.2 _) hv (by omega) (by omega) (by omega), ← h8]
          exact hold
        · have hg : ∀ v, (p.IP.set (k / 8) v).getD (m / 8) 0 = p.IP.getD (m / 8) 0 := fun v => by
            rw [List.getD_eq_getElem?_getD, List.getElem?_set_ne (by omega), List.getD_eq_getElem?_getD]
          rw [hg]
          exact hold
    · right
      rw [decF hi]
      exact ⟨p, rfl, hp, vpB_iff.2 ⟨by omega, by omega, fun k hk hbk => hz k hk (by omega)⟩⟩) (0, S_Prefix.mk [0, 0, 0, 0, 0, 0, 0, 0, 0, 0, 0, 0, 0, 0, 0, 0] c) ⟨by dsimp only; omega, by dsimp only; omega, ⟨rfl, zero_bytes 16⟩, rfl, fun k hk _ => by
        unfold bitA
        have : ([0, 0, 0, 0, 0, 0, 0, 0, 0, 0, 0, 0, 0, 0, 0, 0] : List Int).getD (k / 8) 0 = 0 := ad0_get _
        dsimp only
        rw [this]
        have key : ∀ j : Fin 8, bit8 0 j = 0 := by decide +kernel
        exact key ⟨k % 8, by omega⟩⟩
  rw [e]
  exact ⟨r, rfl, hr⟩
theorem vp0 : vpB p0 = true := vpB_iff.2 ⟨by decide, by decide, by decide +kernel⟩
theorem seq_spec {t : S_multihopmade_Tape} (h : TapeOk t) : ∃ v t', F_world_Seq t = some (v, t') ∧ (0 ≤ v ∧ v ≤ 65535) ∧ TapeOk t' := by
  unfold F_world_Seq
  obtain ⟨v1, t1, e1, a1, b1, k1⟩ := next_spec h 6 (by omega) (by omega)
  rw [e1]
  refine ⟨_, t1, rfl, ?_, k1⟩
  rw [wrap16]
  omega
theorem cost_spec {t : S_multihopmade_Tape} (h : TapeOk t) : ∃ v t', F_world_Cost t = some (v, t') ∧ (0 ≤ v ∧ v ≤ 65535) ∧ TapeOk t' := by
  unfold F_world_Cost
  obtain ⟨v1, t1, e1, a1, b1, k1⟩ := next_spec h 6 (by omega) (by omega)
  obtain ⟨v2, t2, e2, a2, b2, k2⟩ := next_spec k1 4 (by omega) (by omega)
  obtain ⟨v3, t3, e3, a3, b3, k3⟩ := next_spec k1 600 (by omega) (by omega)
  obtain ⟨v4, t4, e4, a4, b4, k4⟩ := next_spec k1 30 (by omega) (by omega)
  simp only [e1, e2, e3, e4, Option.bind_some]
  cases v1 == 0
  · cases v1 == 1
    · refine ⟨_, t4, rfl, ?_, k4⟩
      rw [wi (x := 32 * v4) (by omega) (by omega), wi (by omega) (by omega)]
      omega
    · refine ⟨_, t3, rfl, ?_, k3⟩
      rw [wi (by omega) (by omega)]
      omega
  · exact ⟨_, t2, rfl, by omega, k2⟩
theorem prefix_spec {t : S_multihopmade_Tape} (h : TapeOk t) : ∃ p t', F_world_Prefix t = some (p, t') ∧ (wfP p ∧ vpB p = true) ∧ TapeOk t' := by
  unfold F_world_Prefix F_world_Prefix_j1
  obtain ⟨v1, t1, e1, a1, b1, k1⟩ := next_spec h 10 (by omega) (by omega)
  obtain ⟨v2, t2, e2, k2⟩ := bool_spec k1 7 (by omega) (by omega)
  have hi : idx ([128, 128, 64, 56, 48, 32, 0, 127, 3, 60] : List Int) v1 = some (([128, 128, 64, 56, 48, 32, 0, 127, 3, 60] : List Int)[v1.toNat]'(by simp; omega)) := idx_int a1 (by simpa using b1)
  rw [e1, Option.bind_some, hi, Option.bind_some, e2, Option.bind_some]
  cases v2
  · obtain ⟨ip, t3, e3, l3, B3, k3⟩ := ip_spec k2
    obtain ⟨p, e4, w4⟩ := mask_good B3 (([128, 128, 64, 56, 48, 32, 0, 127, 3, 60] : List Int)[v1.toNat]'(by simp; omega))
    simp only [cond_false, e3, Option.bind_some, e4]
    exact ⟨_, _, rfl, w4, k3⟩
  · obtain ⟨v5, t5, e5, a5, b5, k5⟩ := next_spec k2 129 (by omega) (by omega)
    obtain ⟨ip, t3, e3, l3, B3, k3⟩ := ip_spec k5
    obtain ⟨p, e4, w4⟩ := mask_good B3 v5
    simp only [cond_true, e5, e3, Option.bind_some, e4]
    exact ⟨_, _, rfl, w4, k3⟩
theorem to_spec {t : S_multihopmade_Tape} (h : TapeOk t) : ∃ d t', F_world_To t = some (d, t') ∧ (wfP d.Dst ∧ wfP d.Src ∧ vpB d.Dst = true ∧ vpB d.Src = true ∧ 1 ≤ d.Router ∧ d.Router ≤ 5) ∧ TapeOk t' := by
  unfold F_world_To F_world_To_j1
  obtain ⟨ip, t1, e1, l1, B1, k1⟩ := ip_spec h
  obtain ⟨v2, t2, e2, a2, b2, k2⟩ := next_spec k1 4 (by omega) (by omega)
  have hi : idx ([128, 128, 64, 0] : List Int) v2 = some (([128, 128, 64, 0] : List Int)[v2.toNat]'(by simp; omega)) := idx_int a2 (by simpa using b2)
  obtain ⟨p, e3, w3, v3⟩ := mask_good B1 (([128, 128, 64, 0] : List Int)[v2.toNat]'(by simp; omega))
  obtain ⟨u, t4, e4, a4, b4, k4⟩ := eui_spec k2
  obtain ⟨v5, t5, e5, k5⟩ := bool_spec k4 3 (by omega) (by omega)
  rw [e1, Option.bind_some, e2, Option.bind_some, hi, Option.bind_some, e3, Option.bind_some, e4, Option.bind_some, e5, Option.bind_some]
  cases v5
  · exact ⟨_, _, rfl, ⟨w3, wfP0, v3, vp0, a4, b4⟩, k5⟩
  · obtain ⟨q, t6, e6, ⟨w6, v6⟩, k6⟩ := prefix_spec k5
    simp only [cond_true, e6, Option.bind_some]
    exact ⟨_, _, rfl, ⟨w3, w6, v3, v6, a4, b4⟩, k6⟩
theorem or_one (x : Int) : 0 ≤ ior .u64 x 1 ∧ ior .u64 x 1 ≤ 18446744073709551615 ∧ ior .u64 x 1 ≠ 0 := by
  unfold ior
  rw [wrap64]
  refine ⟨by omega, by omega, ?_⟩
  have h1 : (BitVec.ofInt IntKind.u64.bits x ||| BitVec.ofInt IntKind.u64.bits 1).toNat < 2 ^ 64 := BitVec.isLt _
  have h2 : (BitVec.ofInt IntKind.u64.bits x ||| BitVec.ofInt IntKind.u64.bits 1).toNat ≠ 0 := by
    intro h
    have h3 : (BitVec.ofInt IntKind.u64.bits x ||| BitVec.ofInt IntKind.u64.bits 1) = 0 := BitVec.eq_of_toNat_eq (by simpa using h)
    have h4 : (BitVec.ofInt IntKind.u64.bits x ||| BitVec.ofInt IntKind.u64.bits 1).getLsbD 0 = false := by rw [h3]; simp
    rw [BitVec.getLsbD_or] at h4
    have h5 : (BitVec.ofInt IntKind.u64.bits 1).getLsbD 0 = true := by decide
    rw [h5, Bool.or_true] at h4
    cases h4
  omega
theorem notice_spec {t : S_multihopmade_Tape} (h : TapeOk t) : ∃ n t', F_world_Notice t = some (n, t') ∧ GoodN n ∧ TapeOk t' := by
  unfold F_world_Notice F_world_Notice_j1
  obtain ⟨v1, t1, e1, a1, b1, k1⟩ := next_spec h 5 (by omega) (by omega)
  rw [e1, Option.bind_some]
  dsimp only
  rw [wi (x := 1 + v1) (by omega) (by omega)]
  have hv : v1 = 0 ∨ v1 = 1 ∨ v1 = 2 ∨ v1 = 3 ∨ v1 = 4 := by omega
  rcases hv with rfl | rfl | rfl | rfl | rfl
  · simp only [Int.reduceAdd, Int.reduceBEq, cond_true]
    obtain ⟨s, t2, e2, hs, k2⟩ := seq_spec k1
    rw [e2, Option.bind_some]
    exact ⟨_, _, rfl, .hello _ hs, k2⟩
  · simp only [Int.reduceAdd, Int.reduceBEq, cond_true, cond_false]
    obtain ⟨u, t2, e2, a2, b2, k2⟩ := eui_spec k1
    obtain ⟨m, t3, e3, hm, k3⟩ := cost_spec k2
    obtain ⟨v4, t4, e4, k4⟩ := bool_spec k3 5 (by omega) (by omega)
    rw [e2, Option.bind_some, e3, Option.bind_some, e4, Option.bind_some]
    cases v4
    · exact ⟨_, _, rfl, .heard _ _ hm (by dsimp only; omega) (by dsimp only; omega), k4⟩
    · obtain ⟨w, t5, e5, k5⟩ := word_spec k4
      simp only [cond_true, e5, Option.bind_some]
      have ho := or_one w
      exact ⟨_, _, rfl, .heard _ _ hm ⟨ho.1, ho.2.1⟩ ho.2.2, k5⟩
  · simp only [Int.reduceAdd, Int.reduceBEq, cond_true, cond_false]
    obtain ⟨⟨d, c, r⟩, t2, e2, ⟨w1, w2, u1, u2, r1, r5⟩, k2⟩ := to_spec k1
    obtain ⟨s, t3, e3, hs, k3⟩ := seq_spec k2
    obtain ⟨m, t4, e4, hm, k4⟩ := cost_spec k3
    obtain ⟨v5, t5, e5, k5⟩ := bool_spec k4 5 (by omega) (by omega)
    rw [e2, Option.bind_some, e3, Option.bind_some, e4, Option.bind_some, e5, Option.bind_some]
    dsimp only at w1 w2 u1 u2 r1 r5
    cases v5
    · exact ⟨_, _, rfl, .update _ _ _ _ _ hs hm w1 w2 u1 u2 (by omega) (by omega), k5⟩
    · exact ⟨_, _, rfl, .update _ _ _ _ _ hs (by omega) w1 w2 u1 u2 (by omega) (by omega), k5⟩
  · simp only [Int.reduceAdd, Int.reduceBEq, cond_true, cond_false]
    obtain ⟨⟨d, c, r⟩, t2, e2, ⟨w1, w2, u1, u2, r1, r5⟩, k2⟩ := to_spec k1
    obtain ⟨v5, t5, e5, k5⟩ := bool_spec k2 3 (by omega) (by omega)
    rw [e2, Option.bind_some, e5, Option.bind_some]
    dsimp only at w1 w2 u1 u2 r1 r5
    cases v5
    · exact ⟨_, _, rfl, .route _ _ w1 w2 u1 u2, k5⟩
    · exact ⟨_, _, rfl, .route p0 p0 wfP0 wfP0 vp0 vp0, k5⟩
  · simp only [Int.reduceAdd, Int.reduceBEq, cond_true, cond_false]
    obtain ⟨⟨d, c, r⟩, t2, e2, ⟨w1, w2, u1, u2, r1, r5⟩, k2⟩ := to_spec k1
    obtain ⟨s, t3, e3, hs, k3⟩ := seq_spec k2
    obtain ⟨v4, t4, e4, a4, b4, k4⟩ := next_spec k3 32 (by omega) (by omega)
    rw [e2, Option.bind_some, e3, Option.bind_some, e4, Option.bind_some]
    dsimp only at w1 w2 u1 u2 r1 r5
    rw [wi (by dsimp only; omega) (by dsimp only; omega)]
    exact ⟨_, _, rfl, .seqr _ _ _ _ _ hs (by dsimp only; omega) w1 w2 u1 u2 (by omega) (by omega), k4⟩
theorem notices_spec {t : S_multihopmade_Tape} (h : TapeOk t) {n : Int} (n0 : 0 ≤ n) (n1 : n ≤ 60) : ∃ l t', F_world_Notices t n = some (l, t') ∧ (∀ x ∈ l, GoodN x) ∧ (l.length : Int) ≤ n ∧ TapeOk t' := by
  unfold F_world_Notices
  rw [wi (x := n + 1) (by omega) (by omega)]
  obtain ⟨v1, t1, e1, a1, b1, k1⟩ := next_spec h (n + 1) (by omega) (by omega)
  rw [e1, Option.bind_some]
  obtain ⟨b, e2, g2, l2, k2⟩ := loop_inv (step := F_world_Notices_l1) (fun s => 0 ≤ s.2.1 ∧ (s.1.length : Int) + s.2.1 ≤ n ∧ (∀ x ∈ s.1, GoodN x) ∧ TapeOk s.2.2) (fun r => (∀ x ∈ r.1, GoodN x) ∧ (r.1.length : Int) ≤ n ∧ TapeOk r.2) (fun s => s.2.1.toNat) (fun s ⟨i0, i1, hg, ht⟩ => by
    unfold F_world_Notices_l1
    by_cases hi : s.2.1 > 0
    · left
      obtain ⟨x, t2, e3, gx, k3⟩ := notice_spec ht
      rw [decT hi, cond_true, e3, Option.bind_some]
      simp only [Cut.app]
      rw [appO_some (by simp; omega) (by simp; omega), Option.bind_some, wi (by omega) (by omega)]
      refine ⟨_, rfl, ⟨by dsimp only; omega, by dsimp only; simp; omega, ?_, k3⟩, by dsimp only; omega⟩
      intro y hy
      rcases List.mem_append.1 hy with h | h
      · exact hg y h
      · rw [List.mem_singleton.1 h]; exact gx
    · right
      rw [decF hi]
      exact ⟨_, rfl, hg, by dsimp only; omega, ht⟩) ([], v1, t1) ⟨by dsimp only; omega, by dsimp only; simp; omega, by simp, k1⟩
  have e2' : loopO F_world_Notices_l1 (([] : List S_Notice), (v1, t1).1, (v1, t1).2) = some b := e2
  rw [e2', Option.bind_some]
  exact ⟨_, _, rfl, g2, l2, k2⟩
theorem spoiled_spec {t : S_multihopmade_Tape} (h : TapeOk t) {n : S_Notice} (w : WfN n) : ∃ m t', F_law29_spoiled t n = some (m, t') ∧ WfN m ∧ TapeOk t' := by
  unfold F_law29_spoiled F_law29_spoiled_j1
  obtain ⟨w1, w2, w3, w4, w5⟩ := w
  obtain ⟨v1, t1, e1, a1, b1, k1⟩ := next_spec h 8 (by omega) (by omega)
  rw [e1, Option.bind_some]
  dsimp only
  cases v1 == 0
  rotate_left
  · obtain ⟨v2, t2, e2, a2, b2, k2⟩ := next_spec k1 9 (by omega) (by omega)
    rw [cond_true, e2]
    exact ⟨_, _, rfl, ⟨w1, w2, w3, w4, w5⟩, k2⟩
  cases v1 == 1
  rotate_left
  · obtain ⟨v2, t2, e2, a2, b2, k2⟩ := next_spec k1 3 (by omega) (by omega)
    have hi : idx ([(-1), 65536, 1] : List Int) v2 = some (([(-1), 65536, 1] : List Int)[v2.toNat]'(by simp; omega)) := idx_int a2 (by simpa using b2)
    rw [cond_false, cond_true, e2, Option.bind_some, hi]
    exact ⟨_, _, rfl, ⟨w1, w2, w3, w4, w5⟩, k2⟩
  cases v1 == 2
  rotate_left
  · obtain ⟨v2, t2, e2, a2, b2, k2⟩ := next_spec k1 2 (by omega) (by omega)
    rw [cond_false, cond_false, cond_true, e2, Option.bind_some, wu (by dsimp only; omega) (by dsimp only; omega)]
    exact ⟨_, _, rfl, ⟨w1, by dsimp only; omega, w3, w4, w5⟩, k2⟩
  cases v1 == 3
  rotate_left
  · obtain ⟨v2, t2, e2, a2, b2, k2⟩ := next_spec k1 2 (by omega) (by omega)
    rw [cond_false, cond_false, cond_false, cond_true, e2, Option.bind_some, wu (by dsimp only; omega) (by dsimp only; omega)]
    exact ⟨_, _, rfl, ⟨w1, w2, by dsimp only; omega, w4, w5⟩, k2⟩
  cases v1 == 4
  rotate_left
  · obtain ⟨v2, t2, e2, a2, b2, k2⟩ := next_spec k1 2 (by omega) (by omega)
    rw [cond_false, cond_false, cond_false, cond_false, cond_true, e2]
    exact ⟨_, _, rfl, ⟨w1, w2, w3, w4, w5⟩, k2⟩
  cases v1 == 5
  rotate_left
  · obtain ⟨v2, t2, e2, a2, b2, k2⟩ := next_spec k1 140 (by omega) (by omega)
    rw [cond_false, cond_false, cond_false, cond_false, cond_false, cond_true, e2]
    exact ⟨_, _, rfl, ⟨w1, w2, w3, ⟨w4.1, w4.2⟩, w5⟩, k2⟩
  cases v1 == 6
  rotate_left
  · obtain ⟨v2, t2, e2, a2, b2, k2⟩ := next_spec k1 16 (by omega) (by omega)
    rw [cond_false, cond_false, cond_false, cond_false, cond_false, cond_false, cond_true, e2, Option.bind_some]
    dsimp only
    rw [decT (show (0 : Int) ≤ v2 ∧ v2 < 16 by omega)]
    refine ⟨_, _, rfl, ⟨w1, w2, w3, w4, ⟨setA_len _ _ _ _, ?_⟩⟩, k2⟩
    dsimp only
    rw [setA_set w5.1]
    exact set_bytes w5.2 _ (wrap8_bd _)
  · exact ⟨_, _, rfl, ⟨by dsimp only; omega, w2, w3, w4, w5⟩, k1⟩
end
section
open Go.RowKit

def hi1 : S_Notice := S_Notice.mk 1 258 0 0 t0 0
theorem hi1_pk : Pk 7 [hi1] := ⟨fun n hn => by rw [List.mem_singleton.1 hn]; exact .hello _ (by omega), by simp, by omega, by omega⟩
theorem known_true : F_law29_known = some true := by
  unfold F_law29_known
  have hw : ∀ n ∈ [hi1], WfN n := fun n hn => good_wf (hi1_pk.good n hn)
  have e1 : F_messages_Encode 7 [S_Notice.mk 1 258 0 0 (S_Destination.mk (S_Prefix.mk [0, 0, 0, 0, 0, 0, 0, 0, 0, 0, 0, 0, 0, 0, 0, 0] 0) (S_Prefix.mk [0, 0, 0, 0, 0, 0, 0, 0, 0, 0, 0, 0, 0, 0, 0, 0] 0) 0) 0] = some (pk 7 [hi1], 0) := by
    have := enc_p hw 7
    rw [hi1_pk.enc] at this
    exact this
  rw [e1, Option.bind_some]
  have hs := pk_small hi1_pk
  have e2 := (dec_p (pk_ok hi1_pk) (by omega)).2.1 7 [hi1] hi1_pk rfl
  simp only [e2, Option.bind_some, BEq.rfl, cond_true]
  have e3 : pk 7 [hi1] = [42, 1, 0, 0, 0, 0, 7, 0, 4, 1, 2, 1, 2] := by decide
  rw [e3]
  rfl
theorem cloneN {l : List S_Notice} (h : l.length ≤ 1000000) : F_slices_Clone_api_Notice_api_Notice l = some l := by
  unfold F_slices_Clone_api_Notice_api_Notice
  simp only [Cut.app]
  rw [appO_some (by simp; omega) (by simp; omega)]
  rfl
theorem good_wfs {l : List S_Notice} (g : ∀ n ∈ l, GoodN n) : ∀ n ∈ l, WfN n := fun n hn => good_wf (g n hn)
end
section
open Go.RowKit

def fitB (size : Int) (l : List S_Notice) (j : Nat) : Bool := decide (9 + ((encL 0 ad0 (l.take j)).length : Int) ≤ size)
def cnt (size : Int) (l : List S_Notice) : Nat → Nat → Nat
  | k, 0 => k
  | k, f + 1 => if fitB size l (k + 1) then cnt size l (k + 1) f else k
theorem cnt_bd (size : Int) (l : List S_Notice) : ∀ f k, k ≤ cnt size l k f ∧ cnt size l k f ≤ k + f
  | 0, k => by simp [cnt]
  | f + 1, k => by
    have := cnt_bd size l f (k + 1)
    unfold cnt
    split <;> omega
theorem cnt_fit (size : Int) (l : List S_Notice) : ∀ f k, fitB size l k = true → fitB size l (cnt size l k f) = true
  | 0, k, h => h
  | f + 1, k, h => by
    unfold cnt
    split
    · exact cnt_fit size l f (k + 1) (by assumption)
    · exact h
def c0 (size : Int) (l : List S_Notice) : Nat := cnt size l 0 (min l.length 64)
theorem fit1 {size : Int} (h : 72 ≤ size) {l : List S_Notice} (g : ∀ n ∈ l, GoodN n) (hl : l ≠ []) : fitB size l 1 = true := by
  have := encL_len 0 ad0 (l.take 1) (take_good g 1)
  have h2 : (l.take 1).length ≤ 1 := by rw [List.length_take]; omega
  unfold fitB
  refine decide_eq_true ?_
  omega
theorem c0_eq {size : Int} (h : 72 ≤ size) {l : List S_Notice} (g : ∀ n ∈ l, GoodN n) (hl : l ≠ []) : c0 size l = cnt size l 1 (min l.length 64 - 1) := by
  have hp : 0 < l.length := List.length_pos_iff.2 hl
  unfold c0
  rw [show min l.length 64 = (min l.length 64 - 1) + 1 by omega, cnt, if_pos (fit1 h g hl)]
  rfl
theorem c0_bd {size : Int} (h : 72 ≤ size) {l : List S_Notice} (g : ∀ n ∈ l, GoodN n) (hl : l ≠ []) : 1 ≤ c0 size l ∧ c0 size l ≤ 64 ∧ c0 size l ≤ l.length ∧ fitB size l (c0 size l) = true := by
  have hp : 0 < l.length := List.length_pos_iff.2 hl
  rw [c0_eq h g hl]
  have := cnt_bd size l (min l.length 64 - 1) 1
  exact ⟨by omega, by omega, by omega, cnt_fit size l _ _ (fit1 h g hl)⟩
theorem loop_p {size : Int} {l : List S_Notice} (hs : size ≤ 1280) (g : ∀ n ∈ l, GoodN n) (hn : l.length ≤ 1000) (acc : List (List Int)) : ∀ f k, k + f = min l.length 64 → loopO (F_messages_Pack_l2 (l, acc) size) ((k : Int), stP l k) = some ((cnt size l k f : Int), stP l (cnt size l k f))
  | 0, k, hk => by
    refine loop_done ?_
    unfold F_messages_Pack_l2
    dsimp only
    rw [decF (by split <;> omega)]
    rfl
  | f + 1, k, hk => by
    have hkl : k < l.length := by omega
    have hlen := stP_len g (k + 1)
    have key : F_messages_Pack_l2 (l, acc) size ((k : Int), stP l k) = if fitB size l (k + 1) then some (.inl (((k + 1 : Nat) : Int), stP l (k + 1))) else some (.inr ((k : Int), stP l k)) := by
      unfold F_messages_Pack_l2
      dsimp only
      rw [decT (by split <;> omega), idx_lt hkl]
      simp only [cond_true, Option.bind_some, not_k g hkl (by omega)]
      rw [wi (by omega) (by omega), wk k (by omega)]
      have e : (stP l (k + 1)).elements = encL 0 ad0 (l.take (k + 1)) := rfl
      rw [e]
      unfold fitB
      by_cases hf : 9 + ((encL 0 ad0 (l.take (k + 1))).length : Int) ≤ size
      · rw [decF (by omega), decT hf]
        rfl
      · rw [decT (by omega), decF hf]
        rfl
    unfold cnt
    by_cases hf : fitB size l (k + 1) = true
    · rw [if_pos hf] at key ⊢
      rw [loop_next key]
      exact loop_p hs g hn acc f (k + 1) (by omega)
    · rw [if_neg hf] at key ⊢
      exact loop_done key
theorem loop_r {size : Int} {l : List S_Notice} (hs : size ≤ 1280) (g : ∀ n ∈ l, GoodN n) (hn : l.length ≤ 1000) (acc : List (List Int)) : ∀ f k, k + f = min l.length 64 → loopO (F_ref29_Pack_l3 (l, acc) size) (k : Int) = some (cnt size l k f : Int)
  | 0, k, hk => by
    refine loop_done ?_
    unfold F_ref29_Pack_l3
    dsimp only
    by_cases h1 : (k : Int) < (l.length : Int)
    · rw [decT h1, decF (by omega)]
      rfl
    · rw [decF h1]
      rfl
  | f + 1, k, hk => by
    have hkl : k < l.length := by omega
    have hlen := stP_len g (k + 1)
    have key : F_ref29_Pack_l3 (l, acc) size (k : Int) = if fitB size l (k + 1) then some (.inl ((k + 1 : Nat) : Int)) else some (.inr (k : Int)) := by
      unfold F_ref29_Pack_l3
      dsimp only
      rw [decT (by omega), decT (show (k : Int) < 64 by omega), wk k (by omega), subO_some (by omega) (by omega) (by omega)]
      simp only [cond_true, Option.bind_some]
      rw [show ((l.take ((k + 1 : Nat) : Int).toNat).drop (0 : Int).toNat) = l.take (k + 1) by simp, body_r (take_good g _) (by rw [List.length_take]; omega), Option.bind_some]
      have e : (stP l (k + 1)).elements = encL 0 ad0 (l.take (k + 1)) := rfl
      rw [e] at hlen
      rw [wi (by omega) (by omega)]
      unfold fitB
      cases decide (9 + ((encL 0 ad0 (l.take (k + 1))).length : Int) ≤ size) <;> rfl
    unfold cnt
    by_cases hf : fitB size l (k + 1) = true
    · rw [if_pos hf] at key ⊢
      rw [loop_next key]
      exact loop_r hs g hn acc f (k + 1) (by omega)
    · rw [if_neg hf] at key ⊢
      exact loop_done key
/-- the notices of each packet -/
def chk (size : Int) : Nat → List S_Notice → List (List S_Notice)
  | 0, _ => []
  | f + 1, l => if l = [] then [] else l.take (c0 size l) :: chk size f (l.drop (c0 size l))
theorem drop_good {l : List S_Notice} (g : ∀ n ∈ l, GoodN n) (k : Nat) : ∀ n ∈ l.drop k, GoodN n := fun n hn => g n (List.mem_of_mem_drop hn)
theorem chk_len {size : Int} (h : 72 ≤ size) : ∀ (f : Nat) {l : List S_Notice}, (∀ n ∈ l, GoodN n) → l.length ≤ f → (chk size f l).length ≤ l.length
  | 0, l, _, _ => by simp [chk]
  | f + 1, l, g, hf => by
    unfold chk
    split
    · simp
    · rename_i hl
      obtain ⟨b1, b2, b3, _⟩ := c0_bd h g hl
      have := chk_len h f (l := l.drop (c0 size l)) (drop_good g _) (by rw [List.length_drop]; omega)
      rw [List.length_drop] at this
      rw [List.length_cons]
      omega
theorem chk_mem {size : Int} (h : 72 ≤ size) : ∀ (f : Nat) {l : List S_Notice}, (∀ n ∈ l, GoodN n) → l.length ≤ f → ∀ c ∈ chk size f l, (∀ n ∈ c, GoodN n) ∧ c ≠ [] ∧ c.length ≤ 64 ∧ 9 + ((encL 0 ad0 c).length : Int) ≤ size
  | 0, l, _, _, c, hc => by simp [chk] at hc
  | f + 1, l, g, hf, c, hc => by
    unfold chk at hc
    split at hc
    · simp at hc
    · rename_i hl
      obtain ⟨b1, b2, b3, b4⟩ := c0_bd h g hl
      rcases List.mem_cons.1 hc with rfl | hc
      · refine ⟨take_good g _, ?_, by rw [List.length_take]; omega, by simpa [fitB] using b4⟩
        intro e
        have := congrArg List.length e
        rw [List.length_take, List.length_nil] at this
        omega
      · exact chk_mem h f (drop_good g _) (by rw [List.length_drop]; omega) c hc
theorem sub_N {α : Type} {b : List α} (a : Nat) (ha : a ≤ b.length) : subO b a (b.length : Int) = some (b.drop a) := by
  rw [subO_some (by omega) (by omega) (by omega)]
  simp
theorem cap_some {acc : List (List Int)} {x : List Int} (h : acc.length ≤ 100000) : appO 24 acc [x] = some (acc ++ [x]) := appO_some (by simp; omega) (by simp; omega)
theorem pk_take {at_ : Int} (h0 : 0 ≤ at_) (h1 : at_ < 1099511627776) {l : List S_Notice} (g : ∀ n ∈ l, GoodN n) {k : Nat} (hk : k ≤ 64) : Pk at_ (l.take k) := ⟨take_good g k, by rw [List.length_take]; omega, h0, h1⟩
theorem pack_lp {size at_ : Int} (h72 : 72 ≤ size) (hs : size ≤ 1280) (h0 : 0 ≤ at_) (h1 : at_ < 1099511627776) : ∀ (f : Nat) {l : List S_Notice} (acc : List (List Int)), (∀ n ∈ l, GoodN n) → l.length ≤ f → l.length + acc.length ≤ 1000 → loopO (F_messages_Pack_l1 size at_) (l, acc) = some (acc ++ (chk size f l).map (pk at_))
  | 0, l, acc, _, hf, _ => by
    have : l = [] := List.length_eq_zero_iff.1 (by omega)
    subst this
    simp only [chk, List.map_nil, List.append_nil]
    exact loop_done rfl
  | f + 1, l, acc, g, hf, hn => by
    by_cases hl : l = []
    · subst hl
      simp only [chk, if_true, List.map_nil, List.append_nil]
      exact loop_done rfl
    · obtain ⟨b1, b2, b3, b4⟩ := c0_bd h72 g hl
      have hp : 0 < l.length := List.length_pos_iff.2 hl
      have hlp := loop_p (size := size) hs g (by omega) acc (min l.length 64) 0 (by omega)
      have hst := stP_len g (c0 size l)
      have key : F_messages_Pack_l1 size at_ (l, acc) = some (.inl (l.drop (c0 size l), acc ++ [pk at_ (l.take (c0 size l))])) := by
        unfold F_messages_Pack_l1
        dsimp only
        have hlp' : loopO (F_messages_Pack_l2 (l, acc) size) (0, S_messages_state.mk [] 0 [0, 0, 0, 0, 0, 0, 0, 0, 0, 0, 0, 0, 0, 0, 0, 0]) = some ((c0 size l : Int), stP l (c0 size l)) := hlp
        rw [decT (by omega), cond_true, hlp', Option.bind_some]
        dsimp only
        rw [packet_p (by omega) h0 h1, Option.bind_some]
        simp only [Cut.app]
        rw [cap_some (by omega), Option.bind_some, sub_N _ b3]
        rfl
      rw [loop_next key, pack_lp h72 hs h0 h1 f _ (drop_good g _) (by rw [List.length_drop]; omega) (by rw [List.length_drop, List.length_append, List.length_singleton]; omega)]
      rw [show chk size (f + 1) l = l.take (c0 size l) :: chk size f (l.drop (c0 size l)) by rw [chk, if_neg hl]]
      simp
theorem pack_lr {size at_ : Int} (h72 : 72 ≤ size) (hs : size ≤ 1280) (h0 : 0 ≤ at_) (h1 : at_ < 1099511627776) : ∀ (f : Nat) {l : List S_Notice} (acc : List (List Int)), (∀ n ∈ l, GoodN n) → l.length ≤ f → l.length + acc.length ≤ 1000 → loopO (F_ref29_Pack_l2 size at_) (l, acc) = some (acc ++ (chk size f l).map (pk at_))
  | 0, l, acc, _, hf, _ => by
    have : l = [] := List.length_eq_zero_iff.1 (by omega)
    subst this
    simp only [chk, List.map_nil, List.append_nil]
    exact loop_done rfl
  | f + 1, l, acc, g, hf, hn => by
    by_cases hl : l = []
    · subst hl
      simp only [chk, if_true, List.map_nil, List.append_nil]
      exact loop_done rfl
    · obtain ⟨b1, b2, b3, b4⟩ := c0_bd h72 g hl
      have hp : 0 < l.length := List.length_pos_iff.2 hl
      have hlr := loop_r (size := size) hs g (by omega) acc (min l.length 64 - 1) 1 (by omega)
      rw [← c0_eq h72 g hl] at hlr
      have hpk := pk_take h0 h1 g b2
      have key : F_ref29_Pack_l2 size at_ (l, acc) = some (.inl (l.drop (c0 size l), acc ++ [pk at_ (l.take (c0 size l))])) := by
        unfold F_ref29_Pack_l2
        dsimp only
        have hlr' : loopO (F_ref29_Pack_l3 (l, acc) size) 1 = some (c0 size l : Int) := hlr
        rw [decT (by omega), cond_true, hlr', Option.bind_some, subO_some (by omega) (by omega) (by omega), Option.bind_some, show ((l.take ((c0 size l : Nat) : Int).toNat).drop (0 : Int).toNat) = l.take (c0 size l) by simp, enc_r (good_wfs hpk.good), hpk.enc, Option.bind_some]
        simp only [Cut.app]
        rw [cap_some (by omega), Option.bind_some, sub_N _ b3]
        rfl
      rw [loop_next key, pack_lr h72 hs h0 h1 f _ (drop_good g _) (by rw [List.length_drop]; omega) (by rw [List.length_drop, List.length_append, List.length_singleton]; omega)]
      rw [show chk size (f + 1) l = l.take (c0 size l) :: chk size f (l.drop (c0 size l)) by rw [chk, if_neg hl]]
      simp
noncomputable def packS (at_ : Int) (l : List S_Notice) (size : Int) : List (List Int) × Int :=
  if l.all validN = false then ([], 1) else if at_ < 0 ∨ at_ ≥ 1099511627776 ∨ size < 72 ∨ size > 1280 then ([], 2) else ((chk size l.length l).map (pk at_), 0)
theorem pack_p {l : List S_Notice} (w : ∀ n ∈ l, WfN n) (hl : l.length ≤ 1000) (at_ size : Int) : F_messages_Pack at_ l size = some (packS at_ l size) := by
  unfold F_messages_Pack packS
  rw [all_p w (by omega), Option.bind_some]
  by_cases ha : l.all validN = true
  rotate_left
  · rw [Bool.not_eq_true] at ha
    rw [ha, if_pos rfl]
    rfl
  have g := all_good w ha
  rw [ha, cond_true, if_neg (by simp)]
  unfold F_messages_isCreation
  by_cases h0 : at_ < 0
  · rw [decF (show ¬ at_ ≥ 0 by omega), if_pos (.inl h0)]
    rfl
  rw [decT (show at_ ≥ 0 by omega)]
  by_cases h1 : at_ ≥ 1099511627776
  · rw [decF (show ¬ at_ < 1099511627776 by omega), if_pos (.inr (.inl h1))]
    rfl
  rw [decT (show at_ < 1099511627776 by omega)]
  simp only [cond_true, Option.bind_some]
  by_cases h2 : size < 72
  · rw [decT h2, if_pos (.inr (.inr (.inl h2)))]
    rfl
  rw [decF h2, cond_false]
  by_cases h3 : size > 1280
  · rw [decT h3, if_pos (.inr (.inr (.inr h3)))]
    rfl
  rw [decF h3, cond_false, if_neg (by omega), pack_lp (by omega) (by omega) (by omega) (by omega) l.length [] g (by omega) (by simpa using hl)]
  rfl
theorem pack_r {l : List S_Notice} (w : ∀ n ∈ l, WfN n) (hl : l.length ≤ 1000) (at_ size : Int) : F_ref29_Pack at_ l size = some (packS at_ l size) := by
  unfold F_ref29_Pack packS
  have h := loop_all (step := F_ref29_Pack_l1 l) (S := fun k => (k : Int)) l.length (fun k => (l[k]?.map validN).getD true) (rt := Sum.inl ()) (rf := Sum.inr (([] : List (List Int)), 1)) (fun k hk hp => by
    unfold F_ref29_Pack_l1
    rw [decT (by omega), idx_lt hk]
    rw [List.getElem?_eq_getElem hk] at hp
    simp only [Option.map_some, Option.getD_some] at hp
    simp only [cond_true, Option.bind_some, valid_r, hp, wk k (by omega)]) (fun k hk hp => by
    unfold F_ref29_Pack_l1
    rw [decT (by omega), idx_lt hk]
    rw [List.getElem?_eq_getElem hk] at hp
    simp only [Option.map_some, Option.getD_some] at hp
    simp only [cond_true, Option.bind_some, valid_r, hp, cond_false]) (by
    unfold F_ref29_Pack_l1
    rw [decF (by omega)]
    rfl)
  simp only [Int.natCast_zero] at h
  have e : (∀ k, k < l.length → (l[k]?.map validN).getD true = true) ↔ l.all validN = true := by
    rw [List.all_eq_true]
    constructor
    · intro hk n hn
      obtain ⟨k, hk', rfl⟩ := List.getElem_of_mem hn
      have := hk k hk'
      rw [List.getElem?_eq_getElem hk'] at this
      simpa using this
    · intro hn k hk
      rw [List.getElem?_eq_getElem hk]
      simpa using hn _ (List.getElem_mem hk)
  rw [h]
  by_cases ha : l.all validN = true
  rotate_left
  · rw [if_neg (fun h => ha (e.1 h))]
    rw [Bool.not_eq_true] at ha
    rw [if_pos ha]
    rfl
  have g := all_good w ha
  rw [if_pos (e.2 ha), ha, if_neg (by simp), Option.bind_some, Sum.elim_inl]
  by_cases h0 : at_ < 0
  · rw [decT h0, if_pos (.inl h0)]
    rfl
  rw [decF h0, cond_false]
  by_cases h1 : at_ ≥ 1099511627776
  · rw [decT h1, if_pos (.inr (.inl h1))]
    rfl
  rw [decF h1, cond_false]
  by_cases h2 : size < 72
  · rw [decT h2, if_pos (.inr (.inr (.inl h2)))]
    rfl
  rw [decF h2, cond_false]
  by_cases h3 : size > 1280
  · rw [decT h3, if_pos (.inr (.inr (.inr h3)))]
    rfl
  rw [decF h3, cond_false, if_neg (by omega), pack_lr (by omega) (by omega) (by omega) (by omega) l.length [] g (by omega) (by simpa using hl)]
  rfl
theorem packS_ok {l : List S_Notice} (w : ∀ n ∈ l, WfN n) (hl : l.length ≤ 1000) (at_ size : Int) : (∀ b ∈ (packS at_ l size).1, okB b) ∧ (packS at_ l size).1.length ≤ 1000 := by
  unfold packS
  split
  · exact ⟨fun b hb => by simp at hb, by simp⟩
  split
  · exact ⟨fun b hb => by simp at hb, by simp⟩
  · rename_i h1 h2
    have g := all_good w (by simpa using h1)
    refine ⟨fun b hb => ?_, ?_⟩
    · obtain ⟨c, hc, rfl⟩ := List.mem_map.1 hb
      obtain ⟨gc, _, lc, _⟩ := chk_mem (by omega) l.length g (Nat.le_refl _) c hc
      exact pk_ok ⟨gc, lc, by omega, by omega⟩
    · have := chk_len (size := size) (by omega) l.length g (Nat.le_refl _)
      dsimp only
      rw [List.length_map]
      omega
theorem sameB {l : List (List Int)} (ok : ∀ b ∈ l, okB b) (hl : l.length ≤ 1000) : F_world_SameBytes l l = some true := by
  unfold F_world_SameBytes F_slices_EqualFunc_byte_byte_byte_byte_F282
  rw [bne_self_eq_false, cond_false]
  have hl := loop_run (step := F_slices_EqualFunc_byte_byte_byte_byte_F282_l1 l l) (S := fun k => (k : Int)) l.length (r := Sum.inl ()) (fun k hk => by
    unfold F_slices_EqualFunc_byte_byte_byte_byte_F282_l1
    rw [decT (by omega), idx_lt hk]
    simp only [cond_true, Option.bind_some, equal_spec (ok _ (List.getElem_mem hk)) (ok _ (List.getElem_mem hk)), decide_true, wk k (by omega)]) (by
    unfold F_slices_EqualFunc_byte_byte_byte_byte_F282_l1
    rw [decF (by omega)]
    rfl)
  simp only [Int.natCast_zero] at hl
  rw [hl]
  rfl
end
section
open Go.RowKit

theorem packs_law {raw : List S_Notice} (w : ∀ n ∈ raw, WfN n) (t : List Int) (at_ size : Int) : F_law29_MessagesPacks raw t at_ size = some true := by
  unfold F_law29_MessagesPacks
  by_cases h70 : (raw.length : Int) > 70
  · rw [decT h70, cond_true, known_true]
    rfl
  rw [decF h70, cond_false]
  obtain ⟨k, e1, k1⟩ := new_spec t
  obtain ⟨l, t2, e2, g2, l2, k2⟩ := notices_spec k1 (n := 20) (by omega) (by omega)
  obtain ⟨x, t3, e3, g3, k3⟩ := notice_spec k2
  obtain ⟨y, t4, e4, w4, k4⟩ := spoiled_spec k3 (good_wf g3)
  rw [e1, Option.bind_some, e2, Option.bind_some, cloneN (l := l) (by omega), Option.bind_some, e3, Option.bind_some, e4, Option.bind_some]
  simp only [Cut.app]
  rw [appO_some (by simp; omega) (by simp; omega), Option.bind_some]
  have wS : ∀ n ∈ l ++ [y], WfN n := fun n hn => by
    rcases List.mem_append.1 hn with h | h
    · exact good_wf (g2 n h)
    · rw [List.mem_singleton.1 h]; exact w4
  have lS : (l ++ [y]).length ≤ 1000 := by simp; omega
  generalize l ++ [y] = S at *
  have hl := loop_run (step := F_law29_MessagesPacks_l1 raw (l, t2) S size at_) (S := fun k => (k : Int)) 3 (r := Sum.inl ()) (fun k hk => by
    have key : ∃ x, idx ([raw, l, S] : List (List S_Notice)) (k : Int) = some x ∧ (∀ n ∈ x, WfN n) ∧ x.length ≤ 1000 := by
      have hk3 : k = 0 ∨ k = 1 ∨ k = 2 := by omega
      rcases hk3 with rfl | rfl | rfl
      · exact ⟨_, rfl, w, by omega⟩
      · exact ⟨_, rfl, good_wfs g2, by omega⟩
      · exact ⟨_, rfl, wS, lS⟩
    obtain ⟨x, ex, wx, lx⟩ := key
    obtain ⟨m, em, m0, m1⟩ := mod_spec size 60 (by omega) (by omega)
    obtain ⟨a, ea, a0, a1⟩ := mod_spec at_ 1000 (by omega) (by omega)
    unfold F_law29_MessagesPacks_l1
    dsimp only
    rw [decT (by simp; omega), ex]
    simp only [cond_true, Option.bind_some, em]
    have h2 := loop_run (step := F_law29_MessagesPacks_l2 size m at_ x) (S := fun k => (k : Int)) 5 (r := Sum.inl ()) (fun j hj => by
      have key : ∃ z, idx ([size, IntKind.wrap .i64 (72 + m), 95, 71, 1280] : List Int) (j : Int) = some z := ⟨_, idx_lt (by simpa using hj)⟩
      obtain ⟨z, ez⟩ := key
      unfold F_law29_MessagesPacks_l2
      have o1 := packS_ok wx lx at_ z
      have o2 := packS_ok wx lx a z
      rw [decT (by simp; omega), ez]
      simp only [cond_true, cond_false, Option.bind_some, pack_p wx lx, pack_r wx lx, ea, bne_self_eq_false, sameB o1.1 o1.2, sameB o2.1 o2.2, wk j (by omega)]) (by
      unfold F_law29_MessagesPacks_l2
      rw [decF (by simp)]
      rfl)
    simp only [Int.natCast_zero] at h2
    rw [h2]
    simp only [Option.bind_some, Sum.elim_inl, wk k (by omega)]) (by
    unfold F_law29_MessagesPacks_l1
    rw [decF (by simp)]
    rfl)
  simp only [Int.natCast_zero] at hl
  rw [hl]
  simp only [Option.bind_some, Sum.elim_inl, known_true]
end
section
open Go.RowKit
theorem u16_bd {x : Int} (h : (Lit.int .u16 x).wf = true) : 0 ≤ x ∧ x ≤ 65535 := by
  simp [Lit.wf, IntKind.min, IntKind.max, IntKind.bits, IntKind.signed] at h
  omega
theorem wf_n {n : S_Notice} (h : S_Notice.wf n) : WfN n := by
  obtain ⟨_, h2, _, h4, ⟨⟨⟨d1, d2⟩, _⟩, ⟨⟨c1, c2⟩, _⟩, h5⟩, _⟩ := h
  refine ⟨u16_bd h2, u64_bd h4, u64_bd h5, ⟨d1, okB_wf d2⟩, ⟨c1, okB_wf c2⟩⟩
theorem messagesPacks_holds : Rows.MessagesPacksSaid := messagesPacks_of fun _ _ _ _ h1 _ _ _ => packs_law (fun n hn => wf_n (h1.2 n hn)) _ _ _
end
end Go.Proofs.Ytcemblilhbidgaa
