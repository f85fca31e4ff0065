/-
  The cyclic redundancy check over words of 16 bits: the program's and the reference's.
-/
import Derived.Test.YtohfnlkjdjmipaaCe
import Derived.Test.YtohfnlkjdjmipaaQ1
namespace Go.Proofs.Ytohfnlkjdjmipaa
open Go.RowKit

def toI (v : BitVec 16) : Int := (v.toNat : Int)
theorem toI_bd (v : BitVec 16) : 0 ≤ toI v ∧ toI v < 65536 := by
  have := v.isLt
  unfold toI; omega
theorem ofInt_toI (v : BitVec 16) : BitVec.ofInt 16 (toI v) = v := by
  unfold toI
  rw [BitVec.ofInt_natCast, BitVec.ofNat_toNat, BitVec.setWidth_eq]
theorem toI_ofInt {x : Int} (h : 0 ≤ x ∧ x ≤ 255) : toI (BitVec.ofInt 16 x) = x := by
  obtain ⟨n, rfl⟩ := Int.eq_ofNat_of_zero_le h.1
  unfold toI
  rw [BitVec.ofInt_natCast, BitVec.toNat_ofNat, Nat.mod_eq_of_lt (by omega)]
theorem toI_inj {a b : BitVec 16} (h : toI a = toI b) : a = b := by rw [← ofInt_toI a, ← ofInt_toI b, h]
theorem ixor_I (a b : BitVec 16) : ixor .u16 (toI a) (toI b) = toI (a ^^^ b) := by
  unfold ixor
  rw [show IntKind.u16.bits = 16 by rfl, ofInt_toI, ofInt_toI, wrap16]
  have := (a ^^^ b).isLt
  unfold toI
  omega
theorem ishr_I (a : BitVec 16) (n : Nat) (h : n ≤ 16) : ishr .u16 (toI a) n = toI (a >>> n) := by
  unfold ishr toI
  rw [show min (n : Int).toNat IntKind.u16.bits = n by rw [show IntKind.u16.bits = 16 by rfl]; omega, BitVec.toNat_ushiftRight, Nat.shiftRight_eq_div_pow, Int.fdiv_eq_ediv_of_nonneg _ (Int.pow_nonneg (by omega))]
  rw [Int.natCast_ediv, Int.natCast_pow]; rfl
theorem iand_I (a : BitVec 16) : (iand .u16 (toI a) 1 == 1) = a.getLsbD 0 := by
  unfold iand
  rw [show IntKind.u16.bits = 16 by rfl, ofInt_toI, show BitVec.ofInt 16 1 = 1#16 by rfl, wrap16]
  have e : (a &&& 1#16).toNat = a.toNat % 2 := by
    rw [BitVec.toNat_and]
    exact Nat.and_one_is_mod _
  rw [e, BitVec.getLsbD, Nat.testBit_zero]
  have : a.toNat % 2 = 0 ∨ a.toNat % 2 = 1 := by omega
  rcases this with h | h <;> rw [h] <;> rfl
def tB (a : BitVec 16) : BitVec 16 := bif a.getLsbD 0 then (a >>> 1) ^^^ 33800#16 else a >>> 1
def rep : Nat → BitVec 16 → BitVec 16
  | 0, a => a
  | n + 1, a => tB (rep n a)
def sB (s : BitVec 16) (c : Int) : BitVec 16 := rep 8 (s ^^^ BitVec.ofInt 16 c)
def crcV (l : List Int) : BitVec 16 := l.foldl sB 0#16
def crcL (l : List Int) : List Int := [toI (crcV l) % 256, toI (crcV l) / 256]
theorem crcL_len (l : List Int) : (crcL l).length = 2 := rfl
theorem crcL_ok (l : List Int) : okB (crcL l) := by
  have := toI_bd (crcV l)
  exact okB_cons (by omega) (okB_one (by omega))
theorem crc_l2 (a : BitVec 16) (k : Nat) (h : k < 8) : F_checksum_Extend_l2 (toI a, (k : Int)) = some (Sum.inl (toI (tB a), ((k + 1 : Nat) : Int))) := by
  unfold F_checksum_Extend_l2 F_checksum_Extend_j3
  dsimp only
  rw [decT (show (k : Int) < 8 by omega), iand_I, wk k (by omega)]
  simp only [cond_true]
  have e1 : ishr .u16 (toI a) 1 = toI (a >>> 1) := ishr_I a 1 (by omega)
  have e2 : ixor .u16 (toI (a >>> 1)) 33800 = toI ((a >>> 1) ^^^ 33800#16) := ixor_I (a >>> 1) 33800#16
  rw [e1, e2]
  unfold tB
  cases a.getLsbD 0 <;> rfl
theorem crc_8 (a : BitVec 16) : loopO F_checksum_Extend_l2 (toI a, 0) = some (toI (rep 8 a)) :=
  loop_run (step := F_checksum_Extend_l2) (S := fun k => (toI (rep k a), (k : Int))) 8 (r := toI (rep 8 a)) (fun k hk => crc_l2 (rep k a) k hk) rfl
theorem foldl_snoc {α β : Type} (f : β → α → β) (s : β) {l : List α} {k : Nat} {x : α} (h : l[k]? = some x) : (l.take (k + 1)).foldl f s = f ((l.take k).foldl f s) x := by
  rw [take_snoc h, List.foldl_append]; rfl
theorem crc_l1 {l : List Int} (h : okB l) (hl : l.length ≤ 140737488355328) (s : BitVec 16) (k : Nat) (hk : k < l.length) : F_checksum_Extend_l1 l (toI ((l.take k).foldl sB s), (k : Int)) = some (Sum.inl (toI ((l.take (k + 1)).foldl sB s), ((k + 1 : Nat) : Int))) := by
  unfold F_checksum_Extend_l1
  dsimp only
  have hb := h.get hk
  have e : IntKind.wrap .u16 l[k] = toI (BitVec.ofInt 16 l[k]) := by rw [toI_ofInt hb, wrap16]; omega
  rw [decT (show (k : Int) < (l.length : Int) by omega), idx_lt hk, wk k (by omega), foldl_snoc sB s (List.getElem?_eq_getElem hk)]
  simp only [cond_true, Option.bind_some]
  rw [e, ixor_I, crc_8]
  rfl
theorem crc_extend {l : List Int} (h : okB l) (hl : l.length ≤ 140737488355328) (s : BitVec 16) : F_checksum_Extend (toI s) l = some (toI (l.foldl sB s)) := by
  unfold F_checksum_Extend
  have := loop_run (step := F_checksum_Extend_l1 l) (S := fun k => (toI ((l.take k).foldl sB s), (k : Int))) l.length (r := toI (l.foldl sB s)) (fun k hk => crc_l1 h hl s k hk) (by
    unfold F_checksum_Extend_l1
    dsimp only
    rw [decF (show ¬ (l.length : Int) < (l.length : Int) by omega), List.take_length]
    rfl)
  rw [show ((toI s, 0) : Int × Int) = (toI ((l.take 0).foldl sB s), ((0 : Nat) : Int)) by rfl, this]
  rfl
theorem crc_same : F_ref02_Extend = F_checksum_Extend := by
  funext a b
  rfl
theorem crc_prog {l : List Int} (h : okB l) (hl : l.length ≤ 140737488355328) : F_checksum_CRC l = some (toI (crcV l)) := by
  unfold F_checksum_CRC
  rw [show F_checksum_Extend 0 l = some (toI (crcV l)) from crc_extend h hl 0#16]
  rfl
theorem crc_ref {l : List Int} (h : okB l) (hl : l.length ≤ 140737488355328) : F_ref02_CRC l = some (toI (crcV l)) := by
  unfold F_ref02_CRC
  rw [crc_same, show F_checksum_Extend 0 l = some (toI (crcV l)) from crc_extend h hl 0#16]
  rfl
theorem lo_hi (v : BitVec 16) : IntKind.wrap .u8 (toI v) = toI v % 256 ∧ IntKind.wrap .u8 (ishr .u16 (toI v) 8) = toI v / 256 := by
  refine ⟨wrap8 _, ?_⟩
  have e : ishr .u16 (toI v) 8 = toI v / 256 := by
    unfold ishr
    rw [show min (8 : Int).toNat IntKind.u16.bits = 8 by rfl]
    exact Int.fdiv_eq_ediv_of_nonneg _ (by omega)
  have := toI_bd v
  rw [e, wrap8]
  omega
theorem crc_append {l : List Int} (h : okB l) (hl : l.length ≤ 140737488355320) : F_checksum_Append l = some (l ++ crcL l) := by
  unfold F_checksum_Append
  obtain ⟨e1, e2⟩ := lo_hi (crcV l)
  rw [crc_prog h (by omega), Option.bind_some, wi (by omega) (by omega), e1, e2]
  have e3 : mkO 1 0 ((l.length : Int) + 2) = some 0 := by
    unfold mkO
    rw [if_pos ⟨by omega, by omega, by omega, by omega⟩]; rfl
  rw [e3]
  simp only [Option.bind_some, Cut.app, List.replicate_zero]
  rw [appO_some (by simp; omega) (by simp; omega), Option.bind_some, List.nil_append, appO_some (by simp; omega) (by simp; omega)]
  rfl
theorem ref_append {l : List Int} (h : okB l) (hl : l.length ≤ 140737488355320) : F_ref02_Append l = some (l ++ crcL l) := by
  unfold F_ref02_Append
  obtain ⟨e1, e2⟩ := lo_hi (crcV l)
  rw [crc_ref h (by omega), Option.bind_some, e1, e2]
  simp only [Cut.app]
  rw [appO_some (by simp; omega) (by simp; omega), Option.bind_some, List.nil_append, appO_some (by simp; omega) (by simp; omega)]
  rfl
/-- is it a body with its check behind it? -/
theorem crc_check {l : List Int} {x y : Int} (h : okB l) (hl : l.length ≤ 140737488355320) : F_checksum_Check (l ++ [x, y]) = some (decide ([x, y] = crcL l)) := by
  unfold F_checksum_Check
  obtain ⟨e1, e2⟩ := lo_hi (crcV l)
  have e0 : IntKind.wrap .i64 (((l ++ [x, y]).length : Int) - 2) = (l.length : Int) := by
    rw [show (l ++ [x, y]).length = l.length + 2 by simp, wi (by omega) (by omega)]; omega
  have i1 : idx (l ++ [x, y]) (l.length : Int) = some x := by
    rw [idx_lt (by simp)]; simp
  have i2 : idx (l ++ [x, y]) ((l.length + 1 : Nat) : Int) = some y := by
    rw [idx_lt (by simp)]; simp
  rw [e0, decF (show ¬ (l.length : Int) < 0 by omega), subO_some (by omega) (by omega) (by simp; omega), wk _ (by omega), i1, i2]
  simp only [cond_false, Option.bind_some, Int.toNat_natCast, Int.toNat_zero, List.drop_zero, List.take_left]
  rw [crc_prog h (by omega), Option.bind_some, e1, e2]
  unfold crcL
  by_cases hx : x = toI (crcV l) % 256
  · by_cases hy : y = toI (crcV l) / 256
    · rw [← hx, ← hy]; simp
    · rw [← hx]; simp [hy]
  · rw [show (x == toI (crcV l) % 256) = false by simp [hx]]
    simp [hx]
end Go.Proofs.Ytohfnlkjdjmipaa
