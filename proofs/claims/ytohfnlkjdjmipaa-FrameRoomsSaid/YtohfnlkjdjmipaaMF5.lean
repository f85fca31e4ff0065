/-
  The program reads back the encoding of a good frame.
-/
import Derived.Test.YtohfnlkjdjmipaaMF3
import Derived.Test.YtohfnlkjdjmipaaQU
namespace Go.Proofs.Ytohfnlkjdjmipaa
open Go.RowKit

theorem rd_app {x l : List Int} (bad : Bool) (n : Int) (hx : n = (x.length : Int)) (h1 : 1 ≤ x.length) (h8 : x.length ≤ 8) (ho : okB (x ++ l)) (hl : l.length ≤ 1000) : F_frame_reader_next (S_frame_reader.mk (x ++ l) bad) n = some (beN x, S_frame_reader.mk l bad) := by
  subst hx
  unfold F_frame_reader_next
  have e := uint_some ho (by rw [List.length_append]; omega) 0 x.length h1 h8 (by rw [List.length_append]; omega)
  have e0 : ((0 : Nat) : Int) = 0 := rfl
  rw [e0, List.drop_zero, List.take_left] at e
  dsimp only
  rw [e]
  simp only [Option.bind_some, cond_true]
  rw [subO_some (by omega) (by rw [List.length_append]; omega) (by omega)]
  simp only [Option.bind_some, Int.toNat_natCast, List.take_length]
  rw [List.drop_left]
theorem beN_one (x : Int) : beN [x] = x := by simp [beN]
theorem beN_eq {v : Int} {n : Nat} (h0 : 0 ≤ v) (h1 : v < 256 ^ n) : beN (beB v n) = v := by rw [beN_beB, Int.emod_eq_of_lt h0 h1]
theorem b0_kind (k : Int) (a p s : Bool) (h : k = 1 ∨ k = 2 ∨ k = 3) : IntKind.wrap .i64 (ishr .u8 (IntKind.wrap .u8 (64 * k + flg a 32 + flg p 16 + flg s 8)) 6) = k := by
  rcases h with rfl | rfl | rfl <;> cases a <;> cases p <;> cases s <;> decide
theorem b0_a (k : Int) (a p s : Bool) (h : k = 1 ∨ k = 2 ∨ k = 3) : ((iand .u8 (IntKind.wrap .u8 (64 * k + flg a 32 + flg p 16 + flg s 8)) 32) != 0) = a := by
  rcases h with rfl | rfl | rfl <;> cases a <;> cases p <;> cases s <;> decide
theorem b0_p (k : Int) (a p s : Bool) (h : k = 1 ∨ k = 2 ∨ k = 3) : ((iand .u8 (IntKind.wrap .u8 (64 * k + flg a 32 + flg p 16 + flg s 8)) 16) != 0) = p := by
  rcases h with rfl | rfl | rfl <;> cases a <;> cases p <;> cases s <;> decide
theorem b0_s (k : Int) (a p s : Bool) (h : k = 1 ∨ k = 2 ∨ k = 3) : ((iand .u8 (IntKind.wrap .u8 (64 * k + flg a 32 + flg p 16 + flg s 8)) 8) != 0) = s := by
  rcases h with rfl | rfl | rfl <;> cases a <;> cases p <;> cases s <;> decide
theorem b1_d (k s : Int) (h : k = 0 ∨ k = 2 ∨ k = 3) (h' : s = 0 ∨ s = 2 ∨ s = 3) : IntKind.wrap .i64 (iand .u8 (ishr .u8 (IntKind.wrap .u8 (64 * k + 16 * s)) 6) 3) = k := by
  rcases h with rfl | rfl | rfl <;> rcases h' with rfl | rfl | rfl <;> decide
theorem b1_s (k s : Int) (h : k = 0 ∨ k = 2 ∨ k = 3) (h' : s = 0 ∨ s = 2 ∨ s = 3) : IntKind.wrap .i64 (iand .u8 (ishr .u8 (IntKind.wrap .u8 (64 * k + 16 * s)) 4) 3) = s := by
  rcases h with rfl | rfl | rfl <;> rcases h' with rfl | rfl | rfl <;> decide
theorem rd_adr {a : S_Addr} (h : AdrOk a) {l : List Int} (bad : Bool) (ho : okB l) (hl : l.length ≤ 1000) : F_frame_reader_addr (S_frame_reader.mk (adrL a ++ l) bad) a.Mode = some (a, S_frame_reader.mk l bad) := by
  unfold F_frame_reader_addr F_frame_reader_addr_j1
  obtain ⟨m, s, e⟩ := a
  unfold adrL
  rcases h with ⟨h1, h2, h3, h4⟩ | ⟨h1, h2, h3, h4⟩
  · dsimp only at h1 h2 h3 h4 ⊢
    subst h1 h2
    have e2' := rd_app (x := beB s 2) (l := l) bad 2 (by rw [beB_len]; rfl) (by rw [beB_len]; omega) (by rw [beB_len]; omega) ((beB_ok _ _).append ho) hl
    rw [if_pos rfl, e2', beN_eq h3 (show s < 256 ^ 2 by omega)]
    simp only [BEq.rfl, cond_true, Option.bind_some]
    rw [wrap16, Int.emod_eq_of_lt h3 (by omega)]
  · dsimp only at h1 h2 h3 h4 ⊢
    subst h1 h2
    have e2' := rd_app (x := beB e 8) (l := l) bad 8 (by rw [beB_len]; rfl) (by rw [beB_len]; omega) (by rw [beB_len]; omega) ((beB_ok _ _).append ho) hl
    rw [if_neg (show ¬ (3 : Int) = 2 by omega), e2', beN_eq h3 (show e < 256 ^ 8 by omega), show ((3 : Int) == 2) = false by rfl, show ((3 : Int) == 3) = true by rfl]
    rfl
/-- from the place behind the addresses on -/
theorem parse_j3 {g : S_Frame} {P M : List Int} {bad : Bool} (hP : P.length ≤ 127) (hM : M.length ≤ 127) : F_frame_parse_j3 (S_frame_reader.mk (P ++ M) bad, g) (P.length : Int) = some (S_Frame.mk g.Kind g.AckRequest g.Pending g.Secure g.Seq g.Pan g.Dst g.Src g.Counter g.Key P M, true) := by
  unfold F_frame_parse_j3
  dsimp only
  rw [subO_some (by omega) (by omega) (by rw [List.length_append]; omega), Option.bind_some]
  simp only [Int.toNat_natCast, Int.toNat_zero, List.drop_zero, Cut.app, List.take_left]
  rw [appO_some (by simp; omega) (by simp; omega), Option.bind_some, subO_some (by omega) (by rw [List.length_append]; omega) (by omega), Option.bind_some]
  simp only [Int.toNat_natCast, List.take_length, List.drop_left, List.nil_append]
  rw [appO_some (by simp; omega) (by simp; omega)]
  rfl
theorem parse_j1 {f g : S_Frame} (h : GoodF f) (e1 : g.Secure = f.Secure) (e2 : g.Counter = 0) (e3 : g.Key = 0) : F_frame_parse_j1 (S_frame_reader.mk (secs f ++ (f.Payload ++ f.MIC)) false, g) = some (S_Frame.mk g.Kind g.AckRequest g.Pending g.Secure g.Seq g.Pan g.Dst g.Src f.Counter f.Key f.Payload f.MIC, true) := by
  obtain ⟨hP, hM⟩ := good_pay h
  have hpm : okB (f.Payload ++ f.MIC) := h.pay.append h.mic
  have hlen : (f.Payload ++ f.MIC).length ≤ 300 := by rw [List.length_append]; omega
  unfold F_frame_parse_j1 F_frame_parse_j2 secs
  dsimp only
  rw [e1]
  cases hs : f.Secure
  · obtain ⟨c, k, m⟩ := h.nos hs
    simp only [cond_false, List.nil_append]
    have e1' : g.Secure = false := e1.trans hs
    have := parse_j3 (g := g) (P := f.Payload) (M := []) (bad := false) hP (by simp)
    rw [List.append_nil] at this
    rw [m, List.append_nil, this, e1', e2, e3, c, k]
  · obtain ⟨c0, c1, k0, k1, m⟩ := h.sec hs
    simp only [cond_true]
    have e4 := rd_app (x := beB f.Counter 4) (l := [f.Key] ++ (f.Payload ++ f.MIC)) false 4 (by rw [beB_len]; rfl) (by rw [beB_len]; omega) (by rw [beB_len]; omega) ((beB_ok _ _).append ((okB_one ⟨k0, k1⟩).append hpm)) (by rw [List.length_append, List.length_singleton]; omega)
    rw [← List.append_assoc] at e4
    have e5 := rd_app (x := [f.Key]) (l := f.Payload ++ f.MIC) false 1 rfl (by simp) (by simp) ((okB_one ⟨k0, k1⟩).append hpm) (by omega)
    rw [e4, beN_eq c0 (show f.Counter < 256 ^ 4 by omega), Option.bind_some]
    dsimp only
    rw [e5, beN_one, Option.bind_some]
    simp only [cond_false]
    have el : IntKind.wrap .i64 (((f.Payload ++ f.MIC).length : Int) - 4) = (f.Payload.length : Int) := by
      rw [List.length_append, wi (by omega) (by omega)]; omega
    rw [el, decF (show ¬ (f.Payload.length : Int) < 0 by omega)]
    simp only [cond_false]
    rw [parse_j3 hP hM, wrap32, Int.emod_eq_of_lt c0 (by omega), wu8 k0 (by omega)]
theorem f_parse {f : S_Frame} (h : GoodF f) : F_frame_parse (bodyL f) = some (f, true) := by
  obtain ⟨md, ms⟩ := good_modes h
  obtain ⟨hP, hM⟩ := good_pay h
  have hpm : okB (f.Payload ++ f.MIC) := h.pay.append h.mic
  have hS : okB (secs f) := by
    unfold secs
    cases hs : f.Secure
    · exact okB_nil
    · obtain ⟨_, _, k0, k1, _⟩ := h.sec hs
      exact (beB_ok _ _).append (okB_one ⟨k0, k1⟩)
  have hA : okB (adrs f) := by
    unfold adrs
    split
    · exact okB_nil
    · exact ((beB_ok _ _).append (adrL_ok _)).append (adrL_ok _)
  have hs5 := secs_le f
  have ha18 := adrs_le f
  have h3 := hd3_ok h
  have eb : bodyL f = [64 * f.Kind + flg f.AckRequest 32 + flg f.Pending 16 + flg f.Secure 8] ++ ([64 * f.Dst.Mode + 16 * f.Src.Mode] ++ ([f.Seq] ++ (adrs f ++ (secs f ++ (f.Payload ++ f.MIC))))) := by
    unfold bodyL hdL hd3
    simp only [List.append_assoc, List.cons_append, List.nil_append]
  have o4 : okB (secs f ++ (f.Payload ++ f.MIC)) := hS.append hpm
  have o3 : okB (adrs f ++ (secs f ++ (f.Payload ++ f.MIC))) := hA.append o4
  have o2 : okB ([f.Seq] ++ (adrs f ++ (secs f ++ (f.Payload ++ f.MIC)))) := (okB_one (h3 _ (by simp [hd3]))).append o3
  have o1 : okB ([64 * f.Dst.Mode + 16 * f.Src.Mode] ++ ([f.Seq] ++ (adrs f ++ (secs f ++ (f.Payload ++ f.MIC))))) := (okB_one (h3 _ (by simp [hd3]))).append o2
  have o0 : okB ([64 * f.Kind + flg f.AckRequest 32 + flg f.Pending 16 + flg f.Secure 8] ++ ([64 * f.Dst.Mode + 16 * f.Src.Mode] ++ ([f.Seq] ++ (adrs f ++ (secs f ++ (f.Payload ++ f.MIC)))))) := (okB_one (h3 _ (by simp [hd3]))).append o1
  have r0 := rd_app false 1 rfl (by simp) (by simp) o0 (by simp only [List.length_append, List.length_singleton]; omega)
  rw [← eb] at r0
  have r1 := rd_app false 1 rfl (by simp) (by simp) o1 (by simp only [List.length_append, List.length_singleton]; omega)
  have r2 := rd_app false 1 rfl (by simp) (by simp) o2 (by simp only [List.length_append]; omega)
  unfold F_frame_parse
  simp only [r0, r1, r2, Option.bind_some, beN_one, b0_kind _ _ _ _ h.kind, b0_a _ _ _ _ h.kind, b0_p _ _ _ _ h.kind, b0_s _ _ _ _ h.kind, b1_d _ _ md ms, b1_s _ _ md ms]
  rw [wu8 h.seq.1 (by have := h.seq.2; omega)]
  by_cases hk : f.Kind = 2
  · have e := h.ack hk
    rw [show (f.Kind != 2) = false by simp [hk]]
    have ea : adrs f = [] := by unfold adrs; rw [if_pos hk]
    simp only [cond_false, ea, List.nil_append]
    refine (parse_j1 h ?_ ?_ ?_).trans ?_
    · rfl
    · rfl
    · rfl
    · rw [e]
      rfl
  · obtain ⟨d, s, nb, na, p0, p1⟩ := h.adr hk
    rw [show (f.Kind != 2) = true by simp [hk]]
    have ea : adrs f ++ (secs f ++ (f.Payload ++ f.MIC)) = beB f.Pan 2 ++ (adrL f.Dst ++ (adrL f.Src ++ (secs f ++ (f.Payload ++ f.MIC)))) := by
      unfold adrs; rw [if_neg hk]; simp only [List.append_assoc]
    have l1 := adrL_le f.Dst
    have l2 := adrL_le f.Src
    have q1 : okB (adrL f.Src ++ (secs f ++ (f.Payload ++ f.MIC))) := (adrL_ok _).append o4
    have q2 : okB (adrL f.Dst ++ (adrL f.Src ++ (secs f ++ (f.Payload ++ f.MIC)))) := (adrL_ok _).append q1
    have s0 := rd_app (x := beB f.Pan 2) false 2 (by rw [beB_len]; rfl) (by rw [beB_len]; omega) (by rw [beB_len]; omega) ((beB_ok _ _).append q2) (by simp only [List.length_append]; omega)
    have s1 := rd_adr d false q1 (by simp only [List.length_append]; omega)
    have s2 := rd_adr s false o4 (by simp only [List.length_append]; omega)
    simp only [cond_true, ea, s0, s1, s2, Option.bind_some]
    refine (parse_j1 h ?_ ?_ ?_).trans ?_
    · rfl
    · rfl
    · rfl
    · dsimp only
      rw [beN_eq p0 (show f.Pan < 256 ^ 2 by omega), wrap16, Int.emod_eq_of_lt p0 (by omega)]
theorem u8L_refl (l : List Int) : (u8L l == u8L l) = true := by simp
theorem f_decode {f : S_Frame} (h : GoodF f) : F_frame_Decode (encL f) = some (f, 0) := by
  have hb := bodyL_len h
  have hl := encL_len (f := f)
  unfold F_frame_Decode
  rw [decF (show ¬ ((encL f).length : Int) > 127 by omega), decF (show ¬ ((encL f).length : Int) < 5 by omega)]
  have ec : F_checksum_Check (encL f) = some true := by
    have := crc_check (l := bodyL f) (x := toI (crcV (bodyL f)) % 256) (y := toI (crcV (bodyL f)) / 256) (bodyL_ok h) (by omega)
    rw [show decide ([toI (crcV (bodyL f)) % 256, toI (crcV (bodyL f)) / 256] = crcL (bodyL f)) = true from decide_eq_true rfl] at this
    exact this
  simp only [cond_false, ec, Option.bind_some, cond_true]
  rw [wi (by omega) (by omega), subO_some (by omega) (by omega) (by omega)]
  have et : ((encL f).take ((((encL f).length : Int) - 2).toNat)).drop (0 : Int).toNat = bodyL f := by
    rw [Int.toNat_zero, List.drop_zero]
    unfold encL
    exact List.take_left' (by rw [List.length_append, crcL_len]; omega)
  simp only [Option.bind_some]
  rw [et, f_parse h]
  simp only [Option.bind_some, cond_true]
  rw [f_encode h]
  simp only [Option.bind_some]
  unfold F_bytes_Equal
  simp [Cut.app]
theorem addr_refl (a : S_Addr) : S_Addr.eqb a a = true := by
  unfold S_Addr.eqb
  simp
theorem enc_ack (s : Int) (p : Bool) : (encL (S_Frame.mk 2 false p false s 0 (S_Addr.mk 0 0 0) (S_Addr.mk 0 0 0) 0 0 [] [])).length = 5 := rfl
theorem known_true : F_law05_known = some true := by
  unfold F_law05_known
  have g := good_ack 7 false (by omega)
  rw [f_encode g, Option.bind_some]
  dsimp only
  rw [f_decode g, Option.bind_some, enc_ack]
  rfl
end Go.Proofs.Ytohfnlkjdjmipaa
