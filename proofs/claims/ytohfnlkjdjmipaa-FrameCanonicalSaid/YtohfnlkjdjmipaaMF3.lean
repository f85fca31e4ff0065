/-
  Good frames: what the reference's functions say of them, and both encodings.
-/
import Derived.Test.YtohfnlkjdjmipaaMF1
import Derived.Test.YtohfnlkjdjmipaaMF2
namespace Go.Proofs.Ytohfnlkjdjmipaa
open Go.RowKit

/-- the whole encoding -/
def bodyL (f : S_Frame) : List Int := hdL f ++ f.MIC
def encL (f : S_Frame) : List Int := bodyL f ++ crcL (bodyL f)
theorem flg_bd (b : Bool) {n : Int} (h : 0 ≤ n) : 0 ≤ flg b n ∧ flg b n ≤ n := by cases b <;> simp [flg] <;> omega
theorem hd3_ok {f : S_Frame} (h : GoodF f) : okB (hd3 f) := by
  obtain ⟨md, ms⟩ := good_modes h
  have h1 := flg_bd f.AckRequest (n := 32) (by omega)
  have h2 := flg_bd f.Pending (n := 16) (by omega)
  have h3 := flg_bd f.Secure (n := 8) (by omega)
  have hk := h.kind
  refine okB_cons (by omega) (okB_cons (by omega) (okB_one h.seq))
theorem hdL_ok {f : S_Frame} (h : GoodF f) : okB (hdL f) := by
  unfold hdL
  refine (((hd3_ok h).append ?_).append ?_).append h.pay
  · unfold adrs
    split
    · exact okB_nil
    · exact ((beB_ok _ _).append (adrL_ok _)).append (adrL_ok _)
  · unfold secs
    cases hs : f.Secure
    · exact okB_nil
    · obtain ⟨_, _, k0, k1, _⟩ := h.sec hs
      exact (beB_ok _ _).append (okB_one ⟨k0, k1⟩)
theorem bodyL_ok {f : S_Frame} (h : GoodF f) : okB (bodyL f) := (hdL_ok h).append h.mic
theorem bodyL_len {f : S_Frame} (h : GoodF f) : 3 ≤ (bodyL f).length ∧ (bodyL f).length ≤ 125 := by
  have := h.size
  unfold bodyL
  rw [List.length_append]
  have h3 : 3 ≤ (hdL f).length := by
    unfold hdL
    simp only [List.length_append, hd3_len]; omega
  omega
theorem encL_ok {f : S_Frame} (h : GoodF f) : okB (encL f) := (bodyL_ok h).append (crcL_ok _)
theorem encL_len {f : S_Frame} : (encL f).length = (bodyL f).length + 2 := by
  unfold encL
  rw [List.length_append, crcL_len]
/-- the program's Encode -/
theorem f_encode {f : S_Frame} (h : GoodF f) : F_frame_Encode f = some (encL f, 0) := by
  unfold F_frame_Encode
  have hb := bodyL_len h
  have hl : (hdL f ++ f.MIC).length ≤ 125 := hb.2
  rw [f_valid h]
  simp only [Option.bind_some, cond_true, Cut.app]
  rw [f_header h, Option.bind_some, appO_some (by rw [List.length_append] at hl; omega) (by rw [List.length_append] at hl; omega), Option.bind_some, show F_checksum_Append (hdL f ++ f.MIC) = some (bodyL f ++ crcL (bodyL f)) from crc_append (bodyL_ok h) (by omega)]
  rfl

/-! ### the reference -/
theorem r_flag (b : Bool) (n : Int) : F_ref05_flag b n = some (flg b n) := by cases b <;> rfl
theorem r_adr (l : List Int) {a : S_Addr} (h : AdrOk a) (hl : l.length ≤ 1000) : F_ref05_addr_G0 l a = some (l ++ adrL a) := by
  unfold F_ref05_addr_G0 adrL
  rcases h with h | h
  · rw [h.1, wu (x := a.Short) (by omega) (by omega)]
    simp only [BEq.rfl, cond_true, if_true]
    rw [rc2 l a.Short (by omega), Option.bind_some, decT (by simp [beB_len])]; rfl
  · rw [h.1]
    rw [show ((3 : Int) == 2) = false by rfl, show ((3 : Int) == 3) = true by rfl, if_neg (show ¬ (3 : Int) = 2 by omega)]
    simp only [cond_false, cond_true]
    rw [rc8 l a.EUI (by omega), Option.bind_some, decT (by simp [beB_len])]; rfl
theorem r_byte0 (k : Int) (a p s : Bool) (h : k = 1 ∨ k = 2 ∨ k = 3) : IntKind.wrap .u8 (IntKind.wrap .i64 ((IntKind.wrap .i64 ((IntKind.wrap .i64 ((IntKind.wrap .i64 (64 * k)) + flg a 32)) + flg p 16)) + flg s 8)) = 64 * k + flg a 32 + flg p 16 + flg s 8 := by
  rcases h with rfl | rfl | rfl <;> cases a <;> cases p <;> cases s <;> decide
theorem r_byte1 (k s : Int) (h : k = 0 ∨ k = 2 ∨ k = 3) (h' : s = 0 ∨ s = 2 ∨ s = 3) : IntKind.wrap .u8 (IntKind.wrap .i64 ((IntKind.wrap .i64 (64 * k)) + (IntKind.wrap .i64 (16 * s)))) = 64 * k + 16 * s := by
  rcases h with rfl | rfl | rfl <;> rcases h' with rfl | rfl | rfl <;> decide
theorem r_j1 {f : S_Frame} (h : GoodF f) (l : List Int) (hl : l.length ≤ 100) : F_ref05_header_j1 f l = some (l ++ secs f ++ f.Payload) := by
  have hp := (good_pay h).1
  unfold F_ref05_header_j1 F_ref05_header_j2 secs
  cases hs : f.Secure
  · simp only [cond_false, Cut.app, List.append_nil]
    rw [appO_some (by omega) (by omega)]; rfl
  · obtain ⟨c0, c1, k0, k1, _⟩ := h.sec hs
    simp only [cond_true, Cut.app]
    rw [wu (x := f.Counter) c0 (by omega), rc4 l f.Counter (by omega), Option.bind_some, appO_some (by simp only [List.length_append, beB_len, List.length_singleton]; omega) (by simp only [List.length_append, beB_len, List.length_singleton]; omega), Option.bind_some, appO_some (by simp only [List.length_append, beB_len, List.length_singleton]; omega) (by simp only [List.length_append, beB_len, List.length_singleton]; omega), Option.bind_some, List.append_assoc l]
theorem r_header {f : S_Frame} (h : GoodF f) : F_ref05_header f = some (hdL f) := by
  unfold F_ref05_header
  obtain ⟨md, ms⟩ := good_modes h
  rw [r_flag, r_flag, r_flag]
  simp only [Option.bind_some]
  rw [r_byte0 _ _ _ _ h.kind, r_byte1 _ _ md ms]
  by_cases hk : f.Kind = 2
  · rw [show (f.Kind != 2) = false by simp [hk]]
    simp only [cond_false]
    rw [r_j1 h _ (by simp)]
    unfold hdL adrs hd3
    rw [if_pos hk, List.append_nil]
  · obtain ⟨d, s, _, _, p0, p1⟩ := h.adr hk
    have l1 := adrL_le f.Dst
    have l2 := adrL_le f.Src
    rw [show (f.Kind != 2) = true by simp [hk]]
    simp only [cond_true]
    rw [wu (x := f.Pan) p0 (by omega), rc2 _ f.Pan (by simp), Option.bind_some, r_adr _ d (by simp [beB_len]), Option.bind_some, r_adr _ s (by simp only [List.length_append, List.length_cons, List.length_nil, beB_len]; omega), Option.bind_some, r_j1 h _ (by simp only [List.length_append, List.length_cons, List.length_nil, beB_len]; omega)]
    unfold hdL adrs hd3
    rw [if_neg hk]
    simp only [List.append_assoc]
theorem r_avalid {a : S_Addr} (h : AdrOk a) : F_ref04_Valid a = some true := by
  unfold F_ref04_Valid
  rcases h with h | h
  · rw [h.1, h.2.1]; rfl
  · rw [h.1, h.2.1]; rfl
theorem r_some {a : S_Addr} (h : AdrOk a) : F_ref04_Some a = some true := by
  unfold F_ref04_Some
  rw [r_avalid h]
  rcases h with h | h
  · rw [h.1]; rfl
  · rw [h.1]; rfl
theorem r_abc {a : S_Addr} (h : AdrOk a) (hb : ¬ bcast a) : F_ref04_IsBroadcast a = some false := by
  unfold F_ref04_IsBroadcast
  rw [r_avalid h]
  simp only [Option.bind_some, cond_true]
  rcases h with h | h
  · rw [h.1]
    have : a.Short ≠ 65535 := fun e => hb ⟨h.1, e⟩
    simp [this]
  · rw [h.1]; rfl
theorem r_one {a : S_Addr} (h : AdrOk a) (hb : ¬ bcast a) : F_ref04_One a = some true := by
  unfold F_ref04_One
  rw [r_some h, r_abc h hb]
  rfl
theorem r_len {f : S_Frame} (h : GoodF f) : IntKind.wrap .i64 ((IntKind.wrap .i64 (((hdL f).length : Int) + (f.MIC.length : Int))) + 2) = ((hdL f).length : Int) + f.MIC.length + 2 := by
  have := h.size
  rw [wi (x := ((hdL f).length : Int) + (f.MIC.length : Int)) (by omega) (by omega), wi (by omega) (by omega)]
theorem r_valid {f : S_Frame} (h : GoodF f) : F_ref05_Valid f = some true := by
  unfold F_ref05_Valid
  by_cases hk : f.Kind = 2
  · have e := h.ack hk
    rw [e]
    rfl
  · obtain ⟨d, s, nb, na, _⟩ := h.adr hk
    have hv : F_ref05_Valid_j1 f true = some true := by
      have hl : decide (((hdL f).length : Int) + f.MIC.length + 2 ≤ 127) = true := by
        have := h.size
        exact decT (by omega)
      unfold F_ref05_Valid_j1
      rw [r_some d, r_one s nb, r_header h]
      simp only [Option.bind_some, cond_true, r_len h, hl]
      cases ha : f.AckRequest
      · cases hs : f.Secure
        · obtain ⟨c, k, m⟩ := h.nos hs
          rw [c, k, m]
          rfl
        · obtain ⟨_, _, _, _, m⟩ := h.sec hs
          rw [m]
          rfl
      · rw [r_abc d (na ha)]
        cases hs : f.Secure
        · obtain ⟨c, k, m⟩ := h.nos hs
          rw [c, k, m]
          rfl
        · obtain ⟨_, _, _, _, m⟩ := h.sec hs
          rw [m]
          rfl
    rw [show (f.Kind == 2) = false by simp [hk]]
    rcases h.kind with e | e | e
    · rw [show (f.Kind == 1) = true by simp [e]]
      exact hv
    · exact absurd e hk
    · rw [show (f.Kind == 1) = false by simp [e], show (f.Kind == 3) = true by simp [e]]
      exact hv
theorem r_size {f : S_Frame} (h : GoodF f) : F_ref05_Size f = some (((hdL f).length : Int) + f.MIC.length + 2) := by
  unfold F_ref05_Size
  rw [r_valid h, r_header h]
  simp only [Option.bind_some, cond_true]
  rw [r_len h]
theorem r_room {f : S_Frame} (h : GoodF f) (hk : f.Kind ≠ 2) : F_ref05_Room f = some (127 - (((hdL f).length : Int) + f.MIC.length + 2)) := by
  unfold F_ref05_Room
  have := h.size
  rw [r_valid h, r_size h, show (f.Kind == 2) = false by simp [hk]]
  simp only [Option.bind_some, cond_true, cond_false]
  rw [wi (by omega) (by omega)]
theorem r_encode {f : S_Frame} (h : GoodF f) : F_ref05_Encode f = some (encL f, 0) := by
  unfold F_ref05_Encode
  have hb := bodyL_len h
  have hl : (hdL f ++ f.MIC).length ≤ 125 := hb.2
  rw [r_valid h, r_header h]
  simp only [Option.bind_some, cond_true, Cut.app]
  rw [appO_some (by rw [List.length_append] at hl; omega) (by rw [List.length_append] at hl; omega), Option.bind_some, show F_ref02_Append (hdL f ++ f.MIC) = some (bodyL f ++ crcL (bodyL f)) from ref_append (bodyL_ok h) (by omega)]
  rfl
theorem good_ack (s : Int) (p : Bool) (hs : 0 ≤ s ∧ s ≤ 255) : GoodF (S_Frame.mk 2 false p false s 0 (S_Addr.mk 0 0 0) (S_Addr.mk 0 0 0) 0 0 [] []) where
  kind := Or.inr (Or.inl rfl)
  seq := hs
  ack := fun _ => rfl
  adr := fun e => absurd rfl e
  sec := fun e => by cases e
  nos := fun _ => ⟨rfl, rfl, rfl⟩
  pay := okB_nil
  mic := okB_nil
  size := by
    show (5 : Nat) ≤ 127
    omega
end Go.Proofs.Ytohfnlkjdjmipaa
