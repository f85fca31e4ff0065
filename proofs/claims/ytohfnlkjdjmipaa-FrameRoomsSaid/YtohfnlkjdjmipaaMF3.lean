/-
  Good frames: what the reference's functions say of them, and both encodings.
-/
import Derived.Test.YtohfnlkjdjmipaaQAp
namespace Go.Proofs.Ytohfnlkjdjmipaa
open Go.RowKit

theorem oc2 (a : List Int) (v : Int) (ha : a.length ≤ 1000) : F_octets_Append a v 2 = some (a ++ beB v 2) := octets_append a v 2 (by omega) (by omega)
theorem rc2 (a : List Int) (v : Int) (ha : a.length ≤ 1000) : F_ref01_Append a v 2 = some (a ++ beB v 2) := ref01_append a v 2 (by omega) (by omega)
theorem oc4 (a : List Int) (v : Int) (ha : a.length ≤ 1000) : F_octets_Append a v 4 = some (a ++ beB v 4) := octets_append a v 4 (by omega) (by omega)
theorem rc4 (a : List Int) (v : Int) (ha : a.length ≤ 1000) : F_ref01_Append a v 4 = some (a ++ beB v 4) := ref01_append a v 4 (by omega) (by omega)
theorem oc8 (a : List Int) (v : Int) (ha : a.length ≤ 1000) : F_octets_Append a v 8 = some (a ++ beB v 8) := octets_append a v 8 (by omega) (by omega)
theorem rc8 (a : List Int) (v : Int) (ha : a.length ≤ 1000) : F_ref01_Append a v 8 = some (a ++ beB v 8) := ref01_append a v 8 (by omega) (by omega)
def A00 : S_Addr := S_Addr.mk 0 0 0
def AdrOk (a : S_Addr) : Prop := (a.Mode = 2 ∧ a.EUI = 0 ∧ 0 ≤ a.Short ∧ a.Short ≤ 65535) ∨ (a.Mode = 3 ∧ a.Short = 0 ∧ 0 ≤ a.EUI ∧ a.EUI ≤ 18446744073709551615)
def bcast (a : S_Addr) : Prop := a.Mode = 2 ∧ a.Short = 65535
def adrL (a : S_Addr) : List Int := if a.Mode = 2 then beB a.Short 2 else beB a.EUI 8
def flg (b : Bool) (n : Int) : Int := bif b then n else 0
/-- the first three bytes -/
def hd3 (f : S_Frame) : List Int := [64 * f.Kind + flg f.AckRequest 32 + flg f.Pending 16 + flg f.Secure 8, 64 * f.Dst.Mode + 16 * f.Src.Mode, f.Seq]
def adrs (f : S_Frame) : List Int := if f.Kind = 2 then [] else beB f.Pan 2 ++ adrL f.Dst ++ adrL f.Src
def secs (f : S_Frame) : List Int := bif f.Secure then beB f.Counter 4 ++ [f.Key] else []
def hdL (f : S_Frame) : List Int := hd3 f ++ adrs f ++ secs f ++ f.Payload
structure GoodF (f : S_Frame) : Prop where
  kind : f.Kind = 1 ∨ f.Kind = 2 ∨ f.Kind = 3
  seq : 0 ≤ f.Seq ∧ f.Seq ≤ 255
  ack : f.Kind = 2 → f = S_Frame.mk 2 false f.Pending false f.Seq 0 A00 A00 0 0 [] []
  adr : f.Kind ≠ 2 → AdrOk f.Dst ∧ AdrOk f.Src ∧ ¬ bcast f.Src ∧ (f.AckRequest = true → ¬ bcast f.Dst) ∧ 0 ≤ f.Pan ∧ f.Pan ≤ 65535
  sec : f.Secure = true → 0 ≤ f.Counter ∧ f.Counter ≤ 4294967295 ∧ 0 ≤ f.Key ∧ f.Key ≤ 255 ∧ f.MIC.length = 4
  nos : f.Secure = false → f.Counter = 0 ∧ f.Key = 0 ∧ f.MIC = []
  pay : okB f.Payload
  mic : okB f.MIC
  size : (hdL f).length + f.MIC.length + 2 ≤ 127

theorem adrL_len (a : S_Addr) : (adrL a).length = if a.Mode = 2 then 2 else 8 := by
  unfold adrL
  split <;> rw [beB_len]
theorem adrL_ok (a : S_Addr) : okB (adrL a) := by
  unfold adrL
  split
  · exact beB_ok _ _
  · exact beB_ok _ _
theorem adrL_le (a : S_Addr) : (adrL a).length ≤ 8 := by
  unfold adrL
  split <;> rw [beB_len] <;> omega
theorem hd3_len (f : S_Frame) : (hd3 f).length = 3 := rfl
theorem adrs_le (f : S_Frame) : (adrs f).length ≤ 18 := by
  have h1 := adrL_le f.Dst
  have h2 := adrL_le f.Src
  unfold adrs
  split
  · simp
  · simp only [List.length_append, beB_len]; omega
theorem secs_le (f : S_Frame) : (secs f).length ≤ 5 := by
  unfold secs
  cases f.Secure
  · simp
  · simp only [cond_true, List.length_append, beB_len, List.length_singleton]; omega
/-- the length, as the program counts it -/
def lenF (f : S_Frame) : Int := 3 + f.Payload.length + 2 + (if f.Kind = 2 then 0 else 2 + (if f.Dst.Mode = 2 then 2 else 8) + (if f.Src.Mode = 2 then 2 else 8)) + (bif f.Secure then 5 + (f.MIC.length : Int) else 0)
theorem lenF_eq {f : S_Frame} (h : GoodF f) : lenF f = ((hdL f).length : Int) + f.MIC.length + 2 := by
  have hs : ((secs f).length : Int) = (bif f.Secure then 5 else 0) := by
    unfold secs
    cases f.Secure
    · rfl
    · simp only [cond_true, List.length_append, beB_len, List.length_singleton]; rfl
  have ha : ((adrs f).length : Int) = (if f.Kind = 2 then 0 else 2 + (if f.Dst.Mode = 2 then 2 else 8) + (if f.Src.Mode = 2 then 2 else 8)) := by
    unfold adrs
    split
    · rfl
    · rename_i hk
      obtain ⟨d, s, _⟩ := h.adr hk
      simp only [List.length_append, beB_len, adrL_len]
      split <;> split <;> rfl
  have hm : f.Secure = false → f.MIC.length = 0 := fun e => by rw [(h.nos e).2.2]; rfl
  unfold lenF hdL
  simp only [List.length_append, hd3_len]
  cases hc : f.Secure
  · rw [hc] at hs
    simp only [cond_false] at hs ⊢
    have := hm hc
    omega
  · rw [hc] at hs
    simp only [cond_true] at hs ⊢
    omega

/-! ### the program -/
theorem f_addrBytes {a : S_Addr} (h : AdrOk a) : F_frame_addrBytes a = some (if a.Mode = 2 then 2 else 8) := by
  unfold F_frame_addrBytes
  rcases h with h | h
  · rw [h.1]; rfl
  · rw [h.1]; rfl
theorem f_length {f : S_Frame} (h : GoodF f) : F_frame_length f = some (lenF f) := by
  have hp : (f.Payload.length : Int) ≤ 127 := by
    have := h.size
    unfold hdL at this
    simp only [List.length_append] at this
    omega
  have hm : (f.MIC.length : Int) ≤ 127 := by have := h.size; omega
  unfold F_frame_length F_frame_length_j1 F_frame_length_j2 lenF
  by_cases hk : f.Kind = 2
  · rw [show (f.Kind != 2) = false by simp [hk], if_pos hk]
    simp only [cond_false]
    cases f.Secure
    · simp only [cond_false]
      rw [wi (x := 3 + (f.Payload.length : Int)) (by omega) (by omega), wi (by omega) (by omega)]
      congr 1
    · simp only [cond_true]
      rw [wi (x := 3 + (f.Payload.length : Int)) (by omega) (by omega), wi (x := 3 + (f.Payload.length : Int) + 2) (by omega) (by omega), wi (x := 5 + (f.MIC.length : Int)) (by omega) (by omega), wi (by omega) (by omega)]
      congr 1
  · obtain ⟨d, s, _⟩ := h.adr hk
    rw [show (f.Kind != 2) = true by simp [hk], if_neg hk, f_addrBytes d, f_addrBytes s]
    simp only [cond_true, Option.bind_some]
    generalize ea : (if f.Dst.Mode = 2 then (2 : Int) else 8) = x
    generalize eb : (if f.Src.Mode = 2 then (2 : Int) else 8) = y
    have hx : 0 ≤ x ∧ x ≤ 8 := by rw [← ea]; split <;> omega
    have hy : 0 ≤ y ∧ y ≤ 8 := by rw [← eb]; split <;> omega
    rw [wi (x := 3 + (f.Payload.length : Int)) (by omega) (by omega), wi (x := 3 + (f.Payload.length : Int) + 2) (by omega) (by omega), wi (x := 2 + x) (by omega) (by omega), wi (x := 2 + x + y) (by omega) (by omega), wi (x := 3 + (f.Payload.length : Int) + 2 + (2 + x + y)) (by omega) (by omega)]
    cases f.Secure
    · simp only [cond_false]
      congr 1; omega
    · simp only [cond_true]
      rw [wi (x := 5 + (f.MIC.length : Int)) (by omega) (by omega), wi (by omega) (by omega)]
theorem f_avalid {a : S_Addr} (h : AdrOk a) : F_address_Valid a = some true := by
  unfold F_address_Valid
  rcases h with h | h
  · rw [h.1, h.2.1]; rfl
  · rw [h.1, h.2.1]; rfl
theorem f_amode {a : S_Addr} (h : AdrOk a) : (a.Mode == 0) = false := by
  rcases h with h | h
  · rw [h.1]; rfl
  · rw [h.1]; rfl
theorem f_abc {a : S_Addr} (h : ¬ bcast a) : F_address_IsBroadcast a = some false := by
  unfold F_address_IsBroadcast S_Addr.eqb
  by_cases h1 : a.Mode = 2
  · have h2 : a.Short ≠ 65535 := fun e => h ⟨h1, e⟩
    simp [h2]
  · simp [h1]
theorem f_valid {f : S_Frame} (h : GoodF f) : F_frame_Valid f = some true := by
  unfold F_frame_Valid F_frame_Valid_j1
  by_cases hk : f.Kind = 2
  · have e := h.ack hk
    rw [e]
    rfl
  · obtain ⟨d, s, nb, na, _⟩ := h.adr hk
    have hv : F_frame_validData f = some true := by
      have hl : decide (lenF f ≤ 127) = true := by
        rw [lenF_eq h]
        have := h.size
        exact decT (by omega)
      unfold F_frame_validData
      rw [f_avalid d, f_avalid s, f_amode d, f_amode s, f_abc nb, f_length h]
      simp only [Option.bind_some, cond_true, cond_false, hl]
      cases ha : f.AckRequest
      · cases hs : f.Secure
        · obtain ⟨c, k, m⟩ := h.nos hs
          rw [c, k, m]
          rfl
        · obtain ⟨_, _, _, _, m⟩ := h.sec hs
          rw [m]
          rfl
      · rw [f_abc (na ha)]
        cases hs : f.Secure
        · obtain ⟨c, k, m⟩ := h.nos hs
          rw [c, k, m]
          rfl
        · obtain ⟨_, _, _, _, m⟩ := h.sec hs
          rw [m]
          rfl
    rw [hv, show (f.Kind == 2) = false by simp [hk]]
    rcases h.kind with e | e | e
    · rw [e]; rfl
    · exact absurd e hk
    · rw [e]; rfl
theorem f_size {f : S_Frame} (h : GoodF f) : F_frame_Size f = some (lenF f) := by
  unfold F_frame_Size
  rw [f_valid h]
  simp only [Option.bind_some, cond_true]
  rw [f_length h]
  rfl
theorem f_adr (l : List Int) {a : S_Addr} (h : AdrOk a) (hl : l.length ≤ 1000) : F_frame_appendAddr l a = some (l ++ adrL a) := by
  unfold F_frame_appendAddr adrL
  rcases h with h | h
  · rw [h.1, wu (x := a.Short) (by omega) (by omega)]
    simp only [BEq.rfl, cond_true, if_true]
    rw [oc2 l a.Short (by omega)]; rfl
  · rw [h.1]
    rw [show ((3 : Int) == 2) = false by rfl, if_neg (show ¬ (3 : Int) = 2 by omega)]
    simp only [cond_false]
    rw [oc8 l a.EUI (by omega)]; rfl
theorem f_flag (b : Bool) (n : Int) : F_frame_flag b n = some (flg b n) := by cases b <;> rfl
theorem f_byte0 (k : Int) (a p s : Bool) (h : k = 1 ∨ k = 2 ∨ k = 3) : ior .u8 (ior .u8 (ior .u8 (ishl .u8 (IntKind.wrap .u8 k) 6) (flg a 32)) (flg p 16)) (flg s 8) = 64 * k + flg a 32 + flg p 16 + flg s 8 := by
  rcases h with rfl | rfl | rfl <;> cases a <;> cases p <;> cases s <;> decide
theorem f_byte1 (k s : Int) (h : k = 0 ∨ k = 2 ∨ k = 3) (h' : s = 0 ∨ s = 2 ∨ s = 3) : ior .u8 (ishl .u8 (IntKind.wrap .u8 k) 6) (ishl .u8 (IntKind.wrap .u8 s) 4) = 64 * k + 16 * s := by
  rcases h with rfl | rfl | rfl <;> rcases h' with rfl | rfl | rfl <;> decide
theorem adr_mode {a : S_Addr} (h : AdrOk a) : a.Mode = 0 ∨ a.Mode = 2 ∨ a.Mode = 3 := by
  rcases h with h | h
  · exact Or.inr (Or.inl h.1)
  · exact Or.inr (Or.inr h.1)
theorem good_modes {f : S_Frame} (h : GoodF f) : (f.Dst.Mode = 0 ∨ f.Dst.Mode = 2 ∨ f.Dst.Mode = 3) ∧ (f.Src.Mode = 0 ∨ f.Src.Mode = 2 ∨ f.Src.Mode = 3) := by
  by_cases hk : f.Kind = 2
  · rw [h.ack hk]
    exact ⟨Or.inl rfl, Or.inl rfl⟩
  · obtain ⟨d, s, _⟩ := h.adr hk
    exact ⟨adr_mode d, adr_mode s⟩
theorem good_pay {f : S_Frame} (h : GoodF f) : f.Payload.length ≤ 127 ∧ f.MIC.length ≤ 127 := by
  have := h.size
  unfold hdL at this
  simp only [List.length_append] at this
  omega
theorem f_j2 {f : S_Frame} (h : GoodF f) (l : List Int) (hl : l.length ≤ 100) : F_frame_Header_j2 f l = some (l ++ secs f ++ f.Payload) := by
  have hp := (good_pay h).1
  unfold F_frame_Header_j2 F_frame_Header_j3 secs
  cases hs : f.Secure
  · simp only [cond_false, Cut.app, List.append_nil]
    rw [appO_some (by omega) (by omega)]; rfl
  · obtain ⟨c0, c1, k0, k1, _⟩ := h.sec hs
    simp only [cond_true, Cut.app]
    rw [wu (x := f.Counter) c0 (by omega), oc4 l f.Counter (by omega), Option.bind_some, appO_some (by simp only [List.length_append, beB_len, List.length_singleton]; omega) (by simp only [List.length_append, beB_len, List.length_singleton]; omega), Option.bind_some, appO_some (by simp only [List.length_append, beB_len, List.length_singleton]; omega) (by simp only [List.length_append, beB_len, List.length_singleton]; omega), Option.bind_some, List.append_assoc l]
theorem f_header {f : S_Frame} (h : GoodF f) : F_frame_Header f = some (hdL f) := by
  unfold F_frame_Header
  rw [f_valid h]
  simp only [Option.bind_some, cond_true]
  unfold F_frame_Header_j1
  obtain ⟨md, ms⟩ := good_modes h
  rw [f_flag, f_flag, f_flag]
  simp only [Option.bind_some]
  rw [f_byte0 _ _ _ _ h.kind, f_byte1 _ _ md ms]
  by_cases hk : f.Kind = 2
  · rw [show (f.Kind != 2) = false by simp [hk]]
    simp only [cond_false]
    rw [f_j2 h _ (by simp)]
    unfold hdL adrs hd3
    rw [if_pos hk, List.append_nil]
  · obtain ⟨d, s, _, _, p0, p1⟩ := h.adr hk
    have l1 := adrL_le f.Dst
    have l2 := adrL_le f.Src
    rw [show (f.Kind != 2) = true by simp [hk]]
    simp only [cond_true]
    rw [wu (x := f.Pan) p0 (by omega), oc2 _ f.Pan (by simp), Option.bind_some, f_adr _ d (by simp [beB_len]), Option.bind_some, f_adr _ s (by simp only [List.length_append, List.length_cons, List.length_nil, beB_len]; omega), Option.bind_some, f_j2 h _ (by simp only [List.length_append, List.length_cons, List.length_nil, beB_len]; omega)]
    unfold hdL adrs hd3
    rw [if_neg hk]
    simp only [List.append_assoc]

def toI (v : BitVec 16) : Int := (v.toNat : Int)
theorem toI_bd (v : BitVec 16) : 0 ≤ toI v ∧ toI v < 65536 := by
  have := v.isLt
  unfold toI; omega
theorem ofInt_toI (v : BitVec 16) : BitVec.ofInt 16 (toI v) = v := by
  unfold toI
  rw [BitVec.ofInt_natCast, BitVec.ofNat_toNat, BitVec.setWidth_eq]
theorem toI_ofInt {x : Int} (h : 0 ≤ x ∧ x ≤ 255) : toI (BitVec.ofInt 16 x) = x := by
  obtain ⟨n, rfl⟩ := Int.eq_ofNat_of_zero_le h.1
  unfold toI
  rw [BitVec.ofInt_natCast, BitVec.toNat_ofNat, Nat.mod_eq_of_lt (by omega)]
theorem toI_inj {a b : BitVec 16} (h : toI a = toI b) : a = b := by rw [← ofInt_toI a, ← ofInt_toI b, h]
theorem ixor_I (a b : BitVec 16) : ixor .u16 (toI a) (toI b) = toI (a ^^^ b) := by
  unfold ixor
  rw [show IntKind.u16.bits = 16 by rfl, ofInt_toI, ofInt_toI, wrap16]
  have := (a ^^^ b).isLt
  unfold toI
  omega
theorem ishr_I (a : BitVec 16) (n : Nat) (h : n ≤ 16) : ishr .u16 (toI a) n = toI (a >>> n) := by
  unfold ishr toI
  rw [show min (n : Int).toNat IntKind.u16.bits = n by rw [show IntKind.u16.bits = 16 by rfl]; omega, BitVec.toNat_ushiftRight, Nat.shiftRight_eq_div_pow, Int.fdiv_eq_ediv_of_nonneg _ (Int.pow_nonneg (by omega))]
  rw [Int.natCast_ediv, Int.natCast_pow]; rfl
theorem iand_I (a : BitVec 16) : (iand .u16 (toI a) 1 == 1) = a.getLsbD 0 := by
  unfold iand
  rw [show IntKind.u16.bits = 16 by rfl, ofInt_toI, show BitVec.ofInt 16 1 = 1#16 by rfl, wrap16]
  have e : (a &&& 1#16).toNat = a.toNat % 2 := by
    rw [BitVec.toNat_and]
    exact Nat.and_one_is_mod _
  rw [e, BitVec.getLsbD, Nat.testBit_zero]
  have : a.toNat % 2 = 0 ∨ a.toNat % 2 = 1 := by omega
  rcases this with h | h <;> rw [h] <;> rfl
def tB (a : BitVec 16) : BitVec 16 := bif a.getLsbD 0 then (a >>> 1) ^^^ 33800#16 else a >>> 1
def rep : Nat → BitVec 16 → BitVec 16
  | 0, a => a
  | n + 1, a => tB (rep n a)
def sB (s : BitVec 16) (c : Int) : BitVec 16 := rep 8 (s ^^^ BitVec.ofInt 16 c)
def crcV (l : List Int) : BitVec 16 := l.foldl sB 0#16
def crcL (l : List Int) : List Int := [toI (crcV l) % 256, toI (crcV l) / 256]
theorem crcL_len (l : List Int) : (crcL l).length = 2 := rfl
theorem crcL_ok (l : List Int) : okB (crcL l) := by
  have := toI_bd (crcV l)
  exact okB_cons (by omega) (okB_one (by omega))
theorem crc_l2 (a : BitVec 16) (k : Nat) (h : k < 8) : F_checksum_Extend_l2 (toI a, (k : Int)) = some (Sum.inl (toI (tB a), ((k + 1 : Nat) : Int))) := by
  unfold F_checksum_Extend_l2 F_checksum_Extend_j3
  dsimp only
  rw [decT (show (k : Int) < 8 by omega), iand_I, wk k (by omega)]
  simp only [cond_true]
  have e1 : ishr .u16 (toI a) 1 = toI (a >>> 1) := ishr_I a 1 (by omega)
  have e2 : ixor .u16 (toI (a >>> 1)) 33800 = toI ((a >>> 1) ^^^ 33800#16) := ixor_I (a >>> 1) 33800#16
  rw [e1, e2]
  unfold tB
  cases a.getLsbD 0 <;> rfl
theorem crc_8 (a : BitVec 16) : loopO F_checksum_Extend_l2 (toI a, 0) = some (toI (rep 8 a)) :=
  loop_run (step := F_checksum_Extend_l2) (S := fun k => (toI (rep k a), (k : Int))) 8 (r := toI (rep 8 a)) (fun k hk => crc_l2 (rep k a) k hk) rfl
theorem foldl_snoc {α β : Type} (f : β → α → β) (s : β) {l : List α} {k : Nat} {x : α} (h : l[k]? = some x) : (l.take (k + 1)).foldl f s = f ((l.take k).foldl f s) x := by
  rw [take_snoc h, List.foldl_append]; rfl
theorem crc_l1 {l : List Int} (h : okB l) (hl : l.length ≤ 140737488355328) (s : BitVec 16) (k : Nat) (hk : k < l.length) : F_checksum_Extend_l1 l (toI ((l.take k).foldl sB s), (k : Int)) = some (Sum.inl (toI ((l.take (k + 1)).foldl sB s), ((k + 1 : Nat) : Int))) := by
  unfold F_checksum_Extend_l1
  dsimp only
  have hb := h.get hk
  have e : IntKind.wrap .u16 l[k] = toI (BitVec.ofInt 16 l[k]) := by rw [toI_ofInt hb, wrap16]; omega
  rw [decT (show (k : Int) < (l.length : Int) by omega), idx_lt hk, wk k (by omega), foldl_snoc sB s (List.getElem?_eq_getElem hk)]
  simp only [cond_true, Option.bind_some]
  rw [e, ixor_I, crc_8]
  rfl
theorem crc_extend {l : List Int} (h : okB l) (hl : l.length ≤ 140737488355328) (s : BitVec 16) : F_checksum_Extend (toI s) l = some (toI (l.foldl sB s)) := by
  unfold F_checksum_Extend
  have := loop_run (step := F_checksum_Extend_l1 l) (S := fun k => (toI ((l.take k).foldl sB s), (k : Int))) l.length (r := toI (l.foldl sB s)) (fun k hk => crc_l1 h hl s k hk) (by
    unfold F_checksum_Extend_l1
    dsimp only
    rw [decF (show ¬ (l.length : Int) < (l.length : Int) by omega), List.take_length]
    rfl)
  rw [show ((toI s, 0) : Int × Int) = (toI ((l.take 0).foldl sB s), ((0 : Nat) : Int)) by rfl, this]
  rfl
theorem crc_same : F_ref02_Extend = F_checksum_Extend := by
  funext a b
  rfl
theorem crc_prog {l : List Int} (h : okB l) (hl : l.length ≤ 140737488355328) : F_checksum_CRC l = some (toI (crcV l)) := by
  unfold F_checksum_CRC
  rw [show F_checksum_Extend 0 l = some (toI (crcV l)) from crc_extend h hl 0#16]
  rfl
theorem crc_ref {l : List Int} (h : okB l) (hl : l.length ≤ 140737488355328) : F_ref02_CRC l = some (toI (crcV l)) := by
  unfold F_ref02_CRC
  rw [crc_same, show F_checksum_Extend 0 l = some (toI (crcV l)) from crc_extend h hl 0#16]
  rfl
theorem lo_hi (v : BitVec 16) : IntKind.wrap .u8 (toI v) = toI v % 256 ∧ IntKind.wrap .u8 (ishr .u16 (toI v) 8) = toI v / 256 := by
  refine ⟨wrap8 _, ?_⟩
  have e : ishr .u16 (toI v) 8 = toI v / 256 := by
    unfold ishr
    rw [show min (8 : Int).toNat IntKind.u16.bits = 8 by rfl]
    exact Int.fdiv_eq_ediv_of_nonneg _ (by omega)
  have := toI_bd v
  rw [e, wrap8]
  omega
theorem crc_append {l : List Int} (h : okB l) (hl : l.length ≤ 140737488355320) : F_checksum_Append l = some (l ++ crcL l) := by
  unfold F_checksum_Append
  obtain ⟨e1, e2⟩ := lo_hi (crcV l)
  rw [crc_prog h (by omega), Option.bind_some, wi (by omega) (by omega), e1, e2]
  have e3 : mkO 1 0 ((l.length : Int) + 2) = some 0 := by
    unfold mkO
    rw [if_pos ⟨by omega, by omega, by omega, by omega⟩]; rfl
  rw [e3]
  simp only [Option.bind_some, Cut.app, List.replicate_zero]
  rw [appO_some (by simp; omega) (by simp; omega), Option.bind_some, List.nil_append, appO_some (by simp; omega) (by simp; omega)]
  rfl
theorem ref_append {l : List Int} (h : okB l) (hl : l.length ≤ 140737488355320) : F_ref02_Append l = some (l ++ crcL l) := by
  unfold F_ref02_Append
  obtain ⟨e1, e2⟩ := lo_hi (crcV l)
  rw [crc_ref h (by omega), Option.bind_some, e1, e2]
  simp only [Cut.app]
  rw [appO_some (by simp; omega) (by simp; omega), Option.bind_some, List.nil_append, appO_some (by simp; omega) (by simp; omega)]
  rfl
/-- is it a body with its check behind it? -/
theorem crc_check {l : List Int} {x y : Int} (h : okB l) (hl : l.length ≤ 140737488355320) : F_checksum_Check (l ++ [x, y]) = some (decide ([x, y] = crcL l)) := by
  unfold F_checksum_Check
  obtain ⟨e1, e2⟩ := lo_hi (crcV l)
  have e0 : IntKind.wrap .i64 (((l ++ [x, y]).length : Int) - 2) = (l.length : Int) := by
    rw [show (l ++ [x, y]).length = l.length + 2 by simp, wi (by omega) (by omega)]; omega
  have i1 : idx (l ++ [x, y]) (l.length : Int) = some x := by
    rw [idx_lt (by simp)]; simp
  have i2 : idx (l ++ [x, y]) ((l.length + 1 : Nat) : Int) = some y := by
    rw [idx_lt (by simp)]; simp
  rw [e0, decF (show ¬ (l.length : Int) < 0 by omega), subO_some (by omega) (by omega) (by simp; omega), wk _ (by omega), i1, i2]
  simp only [cond_false, Option.bind_some, Int.toNat_natCast, Int.toNat_zero, List.drop_zero, List.take_left]
  rw [crc_prog h (by omega), Option.bind_some, e1, e2]
  unfold crcL
  by_cases hx : x = toI (crcV l) % 256
  · by_cases hy : y = toI (crcV l) / 256
    · rw [← hx, ← hy]; simp
    · rw [← hx]; simp [hy]
  · rw [show (x == toI (crcV l) % 256) = false by simp [hx]]
    simp [hx]

/-- the whole encoding -/
def bodyL (f : S_Frame) : List Int := hdL f ++ f.MIC
def encL (f : S_Frame) : List Int := bodyL f ++ crcL (bodyL f)
theorem flg_bd (b : Bool) {n : Int} (h : 0 ≤ n) : 0 ≤ flg b n ∧ flg b n ≤ n := by cases b <;> simp [flg] <;> omega
theorem hd3_ok {f : S_Frame} (h : GoodF f) : okB (hd3 f) := by
  obtain ⟨md, ms⟩ := good_modes h
  have h1 := flg_bd f.AckRequest (n := 32) (by omega)
  have h2 := flg_bd f.Pending (n := 16) (by omega)
  have h3 := flg_bd f.Secure (n := 8) (by omega)
  have hk := h.kind
  refine okB_cons (by omega) (okB_cons (by omega) (okB_one h.seq))
theorem hdL_ok {f : S_Frame} (h : GoodF f) : okB (hdL f) := by
  unfold hdL
  refine (((hd3_ok h).append ?_).append ?_).append h.pay
  · unfold adrs
    split
    · exact okB_nil
    · exact ((beB_ok _ _).append (adrL_ok _)).append (adrL_ok _)
  · unfold secs
    cases hs : f.Secure
    · exact okB_nil
    · obtain ⟨_, _, k0, k1, _⟩ := h.sec hs
      exact (beB_ok _ _).append (okB_one ⟨k0, k1⟩)
theorem bodyL_ok {f : S_Frame} (h : GoodF f) : okB (bodyL f) := (hdL_ok h).append h.mic
theorem bodyL_len {f : S_Frame} (h : GoodF f) : 3 ≤ (bodyL f).length ∧ (bodyL f).length ≤ 125 := by
  have := h.size
  unfold bodyL
  rw [List.length_append]
  have h3 : 3 ≤ (hdL f).length := by
    unfold hdL
    simp only [List.length_append, hd3_len]; omega
  omega
theorem encL_ok {f : S_Frame} (h : GoodF f) : okB (encL f) := (bodyL_ok h).append (crcL_ok _)
theorem encL_len {f : S_Frame} : (encL f).length = (bodyL f).length + 2 := by
  unfold encL
  rw [List.length_append, crcL_len]
/-- the program's Encode -/
theorem f_encode {f : S_Frame} (h : GoodF f) : F_frame_Encode f = some (encL f, 0) := by
  unfold F_frame_Encode
  have hb := bodyL_len h
  have hl : (hdL f ++ f.MIC).length ≤ 125 := hb.2
  rw [f_valid h]
  simp only [Option.bind_some, cond_true, Cut.app]
  rw [f_header h, Option.bind_some, appO_some (by rw [List.length_append] at hl; omega) (by rw [List.length_append] at hl; omega), Option.bind_some, show F_checksum_Append (hdL f ++ f.MIC) = some (bodyL f ++ crcL (bodyL f)) from crc_append (bodyL_ok h) (by omega)]
  rfl

/-! ### the reference -/
theorem r_flag (b : Bool) (n : Int) : F_ref05_flag b n = some (flg b n) := by cases b <;> rfl
theorem r_adr (l : List Int) {a : S_Addr} (h : AdrOk a) (hl : l.length ≤ 1000) : F_ref05_addr_G0 l a = some (l ++ adrL a) := by
  unfold F_ref05_addr_G0 adrL
  rcases h with h | h
  · rw [h.1, wu (x := a.Short) (by omega) (by omega)]
    simp only [BEq.rfl, cond_true, if_true]
    rw [rc2 l a.Short (by omega), Option.bind_some, decT (by simp [beB_len])]; rfl
  · rw [h.1]
    rw [show ((3 : Int) == 2) = false by rfl, show ((3 : Int) == 3) = true by rfl, if_neg (show ¬ (3 : Int) = 2 by omega)]
    simp only [cond_false, cond_true]
    rw [rc8 l a.EUI (by omega), Option.bind_some, decT (by simp [beB_len])]; rfl
theorem r_byte0 (k : Int) (a p s : Bool) (h : k = 1 ∨ k = 2 ∨ k = 3) : IntKind.wrap .u8 (IntKind.wrap .i64 ((IntKind.wrap .i64 ((IntKind.wrap .i64 ((IntKind.wrap .i64 (64 * k)) + flg a 32)) + flg p 16)) + flg s 8)) = 64 * k + flg a 32 + flg p 16 + flg s 8 := by
  rcases h with rfl | rfl | rfl <;> cases a <;> cases p <;> cases s <;> decide
theorem r_byte1 (k s : Int) (h : k = 0 ∨ k = 2 ∨ k = 3) (h' : s = 0 ∨ s = 2 ∨ s = 3) : IntKind.wrap .u8 (IntKind.wrap .i64 ((IntKind.wrap .i64 (64 * k)) + (IntKind.wrap .i64 (16 * s)))) = 64 * k + 16 * s := by
  rcases h with rfl | rfl | rfl <;> rcases h' with rfl | rfl | rfl <;> decide
theorem r_j1 {f : S_Frame} (h : GoodF f) (l : List Int) (hl : l.length ≤ 100) : F_ref05_header_j1 f l = some (l ++ secs f ++ f.Payload) := by
  have hp := (good_pay h).1
  unfold F_ref05_header_j1 F_ref05_header_j2 secs
  cases hs : f.Secure
  · simp only [cond_false, Cut.app, List.append_nil]
    rw [appO_some (by omega) (by omega)]; rfl
  · obtain ⟨c0, c1, k0, k1, _⟩ := h.sec hs
    simp only [cond_true, Cut.app]
    rw [wu (x := f.Counter) c0 (by omega), rc4 l f.Counter (by omega), Option.bind_some, appO_some (by simp only [List.length_append, beB_len, List.length_singleton]; omega) (by simp only [List.length_append, beB_len, List.length_singleton]; omega), Option.bind_some, appO_some (by simp only [List.length_append, beB_len, List.length_singleton]; omega) (by simp only [List.length_append, beB_len, List.length_singleton]; omega), Option.bind_some, List.append_assoc l]
theorem r_header {f : S_Frame} (h : GoodF f) : F_ref05_header f = some (hdL f) := by
  unfold F_ref05_header
  obtain ⟨md, ms⟩ := good_modes h
  rw [r_flag, r_flag, r_flag]
  simp only [Option.bind_some]
  rw [r_byte0 _ _ _ _ h.kind, r_byte1 _ _ md ms]
  by_cases hk : f.Kind = 2
  · rw [show (f.Kind != 2) = false by simp [hk]]
    simp only [cond_false]
    rw [r_j1 h _ (by simp)]
    unfold hdL adrs hd3
    rw [if_pos hk, List.append_nil]
  · obtain ⟨d, s, _, _, p0, p1⟩ := h.adr hk
    have l1 := adrL_le f.Dst
    have l2 := adrL_le f.Src
    rw [show (f.Kind != 2) = true by simp [hk]]
    simp only [cond_true]
    rw [wu (x := f.Pan) p0 (by omega), rc2 _ f.Pan (by simp), Option.bind_some, r_adr _ d (by simp [beB_len]), Option.bind_some, r_adr _ s (by simp only [List.length_append, List.length_cons, List.length_nil, beB_len]; omega), Option.bind_some, r_j1 h _ (by simp only [List.length_append, List.length_cons, List.length_nil, beB_len]; omega)]
    unfold hdL adrs hd3
    rw [if_neg hk]
    simp only [List.append_assoc]
theorem r_avalid {a : S_Addr} (h : AdrOk a) : F_ref04_Valid a = some true := by
  unfold F_ref04_Valid
  rcases h with h | h
  · rw [h.1, h.2.1]; rfl
  · rw [h.1, h.2.1]; rfl
theorem r_some {a : S_Addr} (h : AdrOk a) : F_ref04_Some a = some true := by
  unfold F_ref04_Some
  rw [r_avalid h]
  rcases h with h | h
  · rw [h.1]; rfl
  · rw [h.1]; rfl
theorem r_abc {a : S_Addr} (h : AdrOk a) (hb : ¬ bcast a) : F_ref04_IsBroadcast a = some false := by
  unfold F_ref04_IsBroadcast
  rw [r_avalid h]
  simp only [Option.bind_some, cond_true]
  rcases h with h | h
  · rw [h.1]
    have : a.Short ≠ 65535 := fun e => hb ⟨h.1, e⟩
    simp [this]
  · rw [h.1]; rfl
theorem r_one {a : S_Addr} (h : AdrOk a) (hb : ¬ bcast a) : F_ref04_One a = some true := by
  unfold F_ref04_One
  rw [r_some h, r_abc h hb]
  rfl
theorem r_len {f : S_Frame} (h : GoodF f) : IntKind.wrap .i64 ((IntKind.wrap .i64 (((hdL f).length : Int) + (f.MIC.length : Int))) + 2) = ((hdL f).length : Int) + f.MIC.length + 2 := by
  have := h.size
  rw [wi (x := ((hdL f).length : Int) + (f.MIC.length : Int)) (by omega) (by omega), wi (by omega) (by omega)]
theorem r_valid {f : S_Frame} (h : GoodF f) : F_ref05_Valid f = some true := by
  unfold F_ref05_Valid
  by_cases hk : f.Kind = 2
  · have e := h.ack hk
    rw [e]
    rfl
  · obtain ⟨d, s, nb, na, _⟩ := h.adr hk
    have hv : F_ref05_Valid_j1 f true = some true := by
      have hl : decide (((hdL f).length : Int) + f.MIC.length + 2 ≤ 127) = true := by
        have := h.size
        exact decT (by omega)
      unfold F_ref05_Valid_j1
      rw [r_some d, r_one s nb, r_header h]
      simp only [Option.bind_some, cond_true, r_len h, hl]
      cases ha : f.AckRequest
      · cases hs : f.Secure
        · obtain ⟨c, k, m⟩ := h.nos hs
          rw [c, k, m]
          rfl
        · obtain ⟨_, _, _, _, m⟩ := h.sec hs
          rw [m]
          rfl
      · rw [r_abc d (na ha)]
        cases hs : f.Secure
        · obtain ⟨c, k, m⟩ := h.nos hs
          rw [c, k, m]
          rfl
        · obtain ⟨_, _, _, _, m⟩ := h.sec hs
          rw [m]
          rfl
    rw [show (f.Kind == 2) = false by simp [hk]]
    rcases h.kind with e | e | e
    · rw [show (f.Kind == 1) = true by simp [e]]
      exact hv
    · exact absurd e hk
    · rw [show (f.Kind == 1) = false by simp [e], show (f.Kind == 3) = true by simp [e]]
      exact hv
theorem r_size {f : S_Frame} (h : GoodF f) : F_ref05_Size f = some (((hdL f).length : Int) + f.MIC.length + 2) := by
  unfold F_ref05_Size
  rw [r_valid h, r_header h]
  simp only [Option.bind_some, cond_true]
  rw [r_len h]
theorem r_room {f : S_Frame} (h : GoodF f) (hk : f.Kind ≠ 2) : F_ref05_Room f = some (127 - (((hdL f).length : Int) + f.MIC.length + 2)) := by
  unfold F_ref05_Room
  have := h.size
  rw [r_valid h, r_size h, show (f.Kind == 2) = false by simp [hk]]
  simp only [Option.bind_some, cond_true, cond_false]
  rw [wi (by omega) (by omega)]
theorem r_encode {f : S_Frame} (h : GoodF f) : F_ref05_Encode f = some (encL f, 0) := by
  unfold F_ref05_Encode
  have hb := bodyL_len h
  have hl : (hdL f ++ f.MIC).length ≤ 125 := hb.2
  rw [r_valid h, r_header h]
  simp only [Option.bind_some, cond_true, Cut.app]
  rw [appO_some (by rw [List.length_append] at hl; omega) (by rw [List.length_append] at hl; omega), Option.bind_some, show F_ref02_Append (hdL f ++ f.MIC) = some (bodyL f ++ crcL (bodyL f)) from ref_append (bodyL_ok h) (by omega)]
  rfl
theorem good_ack (s : Int) (p : Bool) (hs : 0 ≤ s ∧ s ≤ 255) : GoodF (S_Frame.mk 2 false p false s 0 (S_Addr.mk 0 0 0) (S_Addr.mk 0 0 0) 0 0 [] []) where
  kind := Or.inr (Or.inl rfl)
  seq := hs
  ack := fun _ => rfl
  adr := fun e => absurd rfl e
  sec := fun e => by cases e
  nos := fun _ => ⟨rfl, rfl, rfl⟩
  pay := okB_nil
  mic := okB_nil
  size := by
    show (5 : Nat) ≤ 127
    omega
end Go.Proofs.Ytohfnlkjdjmipaa
