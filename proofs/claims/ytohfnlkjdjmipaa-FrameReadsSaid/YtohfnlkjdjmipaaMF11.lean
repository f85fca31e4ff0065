/-
  The program's Decode, for all lists of bytes: it returns a frame exactly for the encodings of good frames.
-/
import Derived.Test.YtohfnlkjdjmipaaMF9
import Derived.Test.YtohfnlkjdjmipaaMF8
namespace Go.Proofs.Ytohfnlkjdjmipaa
open Go.RowKit

structure RdOk (r : S_frame_reader) : Prop where
  ok : okB r.b
  len : r.b.length ≤ 1000
theorem rd_tot {r : S_frame_reader} (h : RdOk r) (n : Nat) (h1 : 1 ≤ n) (h8 : n ≤ 8) : ∃ v r', F_frame_reader_next r (n : Int) = some (v, r') ∧ RdOk r' ∧ 0 ≤ v ∧ v < 18446744073709551616 := by
  obtain ⟨b, bad⟩ := r
  have ho := h.ok
  have hl := h.len
  dsimp only at ho hl
  by_cases hn : n ≤ b.length
  · have ht : (b.take n).length = n := by rw [List.length_take]; omega
    have e := rd_app (x := b.take n) (l := b.drop n) bad (n : Int) (by rw [ht]) (by omega) (by omega) (by rw [List.take_append_drop]; exact ho) (by rw [List.length_drop]; omega)
    rw [List.take_append_drop] at e
    have hb := beN_lt64 (ho.take n) (by omega)
    exact ⟨_, _, e, ⟨ho.drop n, by rw [List.length_drop]; omega⟩, hb.1, hb.2⟩
  · unfold F_frame_reader_next
    have e := uint_none (b := b) (by omega) 0 n h1 h8 (by omega)
    rw [show ((0 : Nat) : Int) = 0 by rfl] at e
    dsimp only
    rw [e]
    exact ⟨_, _, rfl, ⟨ho, hl⟩, by omega, by omega⟩
theorem adr_tot {r : S_frame_reader} (h : RdOk r) (m : Int) : ∃ a r', F_frame_reader_addr r m = some (a, r') ∧ AdrWf a ∧ RdOk r' := by
  unfold F_frame_reader_addr F_frame_reader_addr_j1
  obtain ⟨v2, r2, e2, k2, _, _⟩ := rd_tot h 2 (by omega) (by omega)
  obtain ⟨v8, r8, e8, k8, b0, b1⟩ := rd_tot h 8 (by omega) (by omega)
  have e2' : F_frame_reader_next r 2 = some (v2, r2) := e2
  have e8' : F_frame_reader_next r 8 = some (v8, r8) := e8
  rw [e2', e8']
  cases m == 2
  · cases m == 3
    · exact ⟨_, _, rfl, ⟨⟨Int.le_refl 0, by show (0 : Int) ≤ 65535; omega⟩, Int.le_refl 0, by show (0 : Int) ≤ 18446744073709551615; omega⟩, h⟩
    · exact ⟨_, _, rfl, ⟨⟨Int.le_refl 0, by show (0 : Int) ≤ 65535; omega⟩, b0, by dsimp only; omega⟩, k8⟩
  · exact ⟨_, _, rfl, ⟨by dsimp only; rw [wrap16]; omega, Int.le_refl 0, by show (0 : Int) ≤ 18446744073709551615; omega⟩, k2⟩
theorem zero_wf : WfF (S_Frame.mk 0 false false false 0 0 (S_Addr.mk 0 0 0) (S_Addr.mk 0 0 0) 0 0 [] []) :=
  ⟨⟨by decide, by decide⟩, ⟨by decide, by decide⟩, ⟨⟨by decide, by decide⟩, by decide, by decide⟩, ⟨⟨by decide, by decide⟩, by decide, by decide⟩, ⟨by decide, by decide⟩, ⟨by decide, by decide⟩, okB_nil, by decide, okB_nil, by decide⟩
theorem j3_tot {r : S_frame_reader} (h : RdOk r) {g : S_Frame} (w : WfF g) (n : Nat) (hn : n ≤ r.b.length) : ∃ p, F_frame_parse_j3 (r, g) (n : Int) = some (p, true) ∧ WfF p := by
  have hl := h.len
  unfold F_frame_parse_j3
  dsimp only
  rw [subO_some (by omega) (by omega) (by omega), Option.bind_some]
  simp only [Int.toNat_natCast, Int.toNat_zero, List.drop_zero, Cut.app]
  rw [appO_some (by simp; omega) (by simp; omega), Option.bind_some, subO_some (by omega) (by omega) (by omega), Option.bind_some]
  simp only [Int.toNat_natCast, List.take_length, List.nil_append]
  rw [appO_some (by simp; omega) (by simp; omega)]
  exact ⟨_, rfl, w.seq, w.pan, w.dst, w.src, w.cnt, w.key, h.ok.take n, by dsimp only; rw [List.length_take]; omega, h.ok.drop n, by simp only [List.nil_append, List.length_drop]; omega⟩
theorem j2_tot {r : S_frame_reader} (h : RdOk r) {g : S_Frame} (w : WfF g) : ∃ p ok, F_frame_parse_j2 (r, g) = some (p, ok) ∧ WfF p := by
  have hl := h.len
  unfold F_frame_parse_j2
  dsimp only
  cases r.bad
  · cases g.Secure
    · obtain ⟨p, e, w2⟩ := j3_tot h w r.b.length (Nat.le_refl _)
      exact ⟨p, true, e, w2⟩
    · rw [wi (by omega) (by omega)]
      by_cases h4 : (r.b.length : Int) - 4 < 0
      · rw [decT h4]
        exact ⟨_, _, rfl, zero_wf⟩
      · rw [decF h4]
        obtain ⟨p, e, w2⟩ := j3_tot h w (r.b.length - 4) (by omega)
        rw [show ((r.b.length - 4 : Nat) : Int) = (r.b.length : Int) - 4 by omega] at e
        exact ⟨p, true, e, w2⟩
  · exact ⟨_, _, rfl, zero_wf⟩
theorem j1_tot {r : S_frame_reader} (h : RdOk r) {g : S_Frame} (w : WfF g) : ∃ p ok, F_frame_parse_j1 (r, g) = some (p, ok) ∧ WfF p := by
  unfold F_frame_parse_j1
  obtain ⟨v4, r4, e4, k4, _, _⟩ := rd_tot h 4 (by omega) (by omega)
  obtain ⟨v1, r1, e1, k1, _, _⟩ := rd_tot k4 1 (by omega) (by omega)
  have e4' : F_frame_reader_next r 4 = some (v4, r4) := e4
  have e1' : F_frame_reader_next r4 1 = some (v1, r1) := e1
  dsimp only
  cases g.Secure
  · exact j2_tot h w
  · simp only [cond_true, e4', Option.bind_some, e1']
    exact j2_tot k1 ⟨w.seq, w.pan, w.dst, w.src, by dsimp only; rw [wrap32]; omega, by dsimp only; rw [wrap8]; omega, w.pay, w.payl, w.mic, w.micl⟩
theorem parse_tot {b : List Int} (h : okB b) (hl : b.length ≤ 1000) : ∃ p ok, F_frame_parse b = some (p, ok) ∧ WfF p := by
  unfold F_frame_parse
  obtain ⟨v1, r1, e1, k1, _, _⟩ := rd_tot (r := S_frame_reader.mk b false) ⟨h, hl⟩ 1 (by omega) (by omega)
  obtain ⟨v2, r2, e2, k2, _, _⟩ := rd_tot k1 1 (by omega) (by omega)
  obtain ⟨v3, r3, e3, k3, _, _⟩ := rd_tot k2 1 (by omega) (by omega)
  obtain ⟨v4, r4, e4, k4, _, _⟩ := rd_tot k3 2 (by omega) (by omega)
  have e1' : F_frame_reader_next (S_frame_reader.mk b false) 1 = some (v1, r1) := e1
  have e2' : F_frame_reader_next r1 1 = some (v2, r2) := e2
  have e3' : F_frame_reader_next r2 1 = some (v3, r3) := e3
  have e4' : F_frame_reader_next r3 2 = some (v4, r4) := e4
  simp only [e1', e2', e3', Option.bind_some]
  have hs : 0 ≤ IntKind.wrap .u8 v3 ∧ IntKind.wrap .u8 v3 ≤ 255 := by rw [wrap8]; omega
  have z8 : (0 : Int) ≤ 0 ∧ (0 : Int) ≤ 255 := by omega
  have z16 : (0 : Int) ≤ 0 ∧ (0 : Int) ≤ 65535 := by omega
  have z32 : (0 : Int) ≤ 0 ∧ (0 : Int) ≤ 4294967295 := by omega
  have za : AdrWf (S_Addr.mk 0 0 0) := ⟨z16, by dsimp only; omega⟩
  have n0 : ([] : List Int).length ≤ 140737488351232 := by simp
  cases (IntKind.wrap .i64 (ishr .u8 (IntKind.wrap .u8 v1) 6)) != 2
  · exact j1_tot k3 ⟨hs, z16, za, za, z32, z8, okB_nil, n0, okB_nil, n0⟩
  · obtain ⟨a5, r5, e5, w5, k5⟩ := adr_tot k4 (IntKind.wrap .i64 (iand .u8 (ishr .u8 (IntKind.wrap .u8 v2) 6) 3))
    obtain ⟨a6, r6, e6, w6, k6⟩ := adr_tot k5 (IntKind.wrap .i64 (iand .u8 (ishr .u8 (IntKind.wrap .u8 v2) 4) 3))
    simp only [cond_true, e4', e5, e6, Option.bind_some]
    exact j1_tot k6 ⟨hs, by dsimp only; rw [wrap16]; omega, w5, w6, z32, z8, okB_nil, n0, okB_nil, n0⟩
theorem check_any {l : List Int} (h : okB l) (h2 : 2 ≤ l.length) (hl : l.length ≤ 1000) : (∃ b, l = b ++ crcL b ∧ F_checksum_Check l = some true) ∨ F_checksum_Check l = some false := by
  obtain ⟨b, x, y, rfl, hn⟩ := split2 h2
  have hb : okB b := fun z hz => h z (List.mem_append_left _ hz)
  rw [crc_check hb (by omega)]
  by_cases e : [x, y] = crcL b
  · exact Or.inl ⟨b, by rw [e], by rw [decide_eq_true e]⟩
  · exact Or.inr (by rw [decide_eq_false e])
theorem enc_inj {b : List Int} {f : S_Frame} (h : encL f = b ++ crcL b) : bodyL f = b := by
  unfold encL at h
  exact (List.append_inj' h rfl).1
/-- the program's Decode -/
theorem dec_prog {l : List Int} (h : okB l) : (∃ f, GoodF f ∧ l = encL f ∧ F_frame_Decode l = some (f, 0)) ∨ ((∀ f, GoodF f → l ≠ encL f) ∧ ∃ g e, F_frame_Decode l = some (g, e) ∧ e ≠ 0) := by
  by_cases hx : ∃ f, GoodF f ∧ l = encL f
  · obtain ⟨f, g, rfl⟩ := hx
    exact Or.inl ⟨f, g, rfl, f_decode g⟩
  refine Or.inr ⟨fun f g e => hx ⟨f, g, e⟩, ?_⟩
  unfold F_frame_Decode
  by_cases h1 : (l.length : Int) > 127
  · rw [decT h1]
    exact ⟨_, _, rfl, by decide⟩
  rw [decF h1]
  by_cases h2 : (l.length : Int) < 5
  · rw [decT h2]
    exact ⟨_, _, rfl, by decide⟩
  rw [decF h2]
  simp only [cond_false]
  rcases check_any h (by omega) (by omega) with ⟨b, e, ec⟩ | ec
  · have hbl : b.length + 2 = l.length := by rw [e, List.length_append, crcL_len]
    have hb : okB b := fun z hz => h z (by rw [e]; exact List.mem_append_left _ hz)
    rw [ec]
    simp only [Option.bind_some, cond_true]
    rw [wi (by omega) (by omega), subO_some (by omega) (by omega) (by omega)]
    have et : (l.take (((l.length : Int) - 2).toNat)).drop (0 : Int).toNat = b := by
      rw [Int.toNat_zero, List.drop_zero, e]
      exact List.take_left' (by rw [List.length_append, crcL_len]; omega)
    simp only [Option.bind_some]
    rw [et]
    obtain ⟨p, ok, ep, wp⟩ := parse_tot hb (by omega)
    rw [ep]
    simp only [Option.bind_some]
    cases ok
    · exact ⟨_, _, rfl, by decide⟩
    · rcases enc_any wp with ⟨g, e1, _⟩ | ⟨_, e1, _⟩
      · rw [e1]
        simp only [cond_true, Option.bind_some]
        have hne : encL p ≠ l := fun q => hx ⟨p, g, q.symm⟩
        unfold F_bytes_Equal
        simp only [Cut.app, Option.bind_some]
        rw [u8L_beq (encL_ok g) h, decF hne]
        exact ⟨_, _, rfl, by decide⟩
      · rw [e1]
        exact ⟨_, _, rfl, by decide⟩
  · rw [ec]
    exact ⟨_, _, rfl, by decide⟩

/-- one of the three lists -/
theorem canon_step {a l v : List Int} (ha : okB a) (hl : okB l) (hv : okB v) (k : Nat) (hk : k < 3) : F_law05_FrameCanonical_l4 a l v (k : Int) = some (Sum.inl ((k + 1 : Nat) : Int)) := by
  obtain ⟨b, hb, ho⟩ : ∃ b, idx [a, l, v] (k : Int) = some b ∧ okB b := by
    rcases k with _ | _ | _ | k
    · exact ⟨a, rfl, ha⟩
    · exact ⟨l, rfl, hl⟩
    · exact ⟨v, rfl, hv⟩
    · omega
  unfold F_law05_FrameCanonical_l4 F_law05_FrameCanonical_j5
  rw [decT (show (k : Int) < (([a, l, v] : List (List Int)).length : Int) by simp; omega), hb, wk k (by omega)]
  simp only [cond_true, Option.bind_some]
  rcases dec_prog ho with ⟨f, g, rfl, e⟩ | ⟨_, f, c, e, hc⟩
  · have hl := encL_len (f := f)
    have hb2 := bodyL_len g
    rw [e]
    simp only [Option.bind_some]
    rw [show ((0 : Int) != 0) = false by rfl, f_encode g]
    simp only [cond_false, Option.bind_some]
    rw [show ((0 : Int) != 0) = false by rfl, same_refl _ (by omega)]
    rfl
  · rw [e]
    simp only [Option.bind_some]
    rw [show (c != 0) = true by simp [hc]]
    rfl
theorem canon_l2 : F_law05_FrameCanonical_l2 = F_checksum_Extend_l2 := by
  funext s
  rfl
theorem canon_law {b : List Int} (hb : okB b) (hbl : b.length ≤ 140737488351232) (t : List Int) (a y : Int) : F_law05_FrameCanonical b t a y = some true := by
  unfold F_law05_FrameCanonical
  obtain ⟨k, e1, k1⟩ := new_spec t
  obtain ⟨f, k2, e2, g, _⟩ := any_spec k1
  have hbl2 := bodyL_len g
  have hl := encL_len (f := f)
  have e3 : F_frame_Encode_R f = some (encL f, 0) := by rw [encode_R, f_encode g]
  have w1 : IntKind.wrap .i64 (((encL f).length : Int) - 2) = ((encL f).length : Int) - 2 := wi (by omega) (by omega)
  obtain ⟨v, ev, v0, v1⟩ := mod_spec a (((encL f).length : Int) - 2) (by omega) (by omega)
  obtain ⟨j, rfl⟩ := Int.eq_ofNat_of_zero_le v0
  have hj : j < (encL f).length := by omega
  simp only [e1, e2, e3, Option.bind_some]
  rw [decF (show ¬ ((encL f).length : Int) < 5 by omega), w1]
  simp only [cond_false, ev, Option.bind_some, Cut.app, Nat.zero_add, Int.toNat_natCast]
  rw [idx_lt hj, List.getElem?_eq_getElem hj]
  simp only [Option.bind_some]
  obtain ⟨X, hX⟩ : ∃ X, (encL f).set j (ixor .u8 (encL f)[j] y) = X := ⟨_, rfl⟩
  simp only [hX]
  have oX : okB X := by rw [← hX]; exact (encL_ok g).set _ (wrap8_bd _)
  have lX : X.length = (encL f).length := by rw [← hX, List.length_set]
  have w2 : IntKind.wrap .i64 ((X.length : Int) - 2) = ((X.length - 2 : Nat) : Int) := by rw [wi (by omega) (by omega)]; omega
  rw [w2]
  rw [decT (show (0 : Int) ≤ 0 ∧ (0 : Int) ≤ ((X.length - 2 : Nat) : Int) ∧ ((X.length - 2 : Nat) : Int) ≤ (X.length : Int) by omega)]
  simp only [cond_true, Int.toNat_natCast, List.drop_zero]
  have loop : loopO (F_law05_FrameCanonical_l1 (encL f, 0) (j : Int) (encL f)[j] y) (0, 0) = some (toI (crcV (X.take (X.length - 2)))) := by
    have := loop_run (step := F_law05_FrameCanonical_l1 (encL f, 0) (j : Int) (encL f)[j] y) (S := fun k => (toI ((X.take k).foldl sB 0#16), (k : Int))) (X.length - 2) (r := toI (crcV (X.take (X.length - 2)))) (fun i hi => by
      unfold F_law05_FrameCanonical_l1
      simp only [Nat.zero_add, Int.toNat_natCast, hX, w2, Cut.app, List.drop_zero]
      have hi2 : i < X.length := by omega
      have hbb := oX.get hi2
      have ew : IntKind.wrap .u16 X[i] = toI (BitVec.ofInt 16 X[i]) := by rw [toI_ofInt hbb, wrap16]; omega
      rw [decT (show (i : Int) < ((X.length - 2 : Nat) : Int) by omega), idx_lt (by rw [List.length_take]; omega), List.getElem?_eq_getElem hi2, wk i (by omega), foldl_snoc sB 0#16 (List.getElem?_eq_getElem hi2)]
      simp only [cond_true, Option.bind_some]
      rw [ew, ixor_I, canon_l2, crc_8]
      rfl) (by
      unfold F_law05_FrameCanonical_l1
      simp only [Nat.zero_add, Int.toNat_natCast, hX, w2]
      rw [decF (show ¬ ((X.length - 2 : Nat) : Int) < ((X.length - 2 : Nat) : Int) by omega)]
      rfl)
    exact this
  rw [loop]
  obtain ⟨q1, q2⟩ := lo_hi (crcV (X.take (X.length - 2)))
  have lt : (X.take (X.length - 2)).length = X.length - 2 := by rw [List.length_take]; omega
  simp only [Option.bind_some, q1, q2]
  rw [appO_some (by simp; omega) (by simp; omega), Option.bind_some, List.nil_append, appO_some (by rw [lt]; simp; omega) (by rw [lt]; simp; omega), Option.bind_some, ref_append hb (by omega), Option.bind_some]
  have o26 : okB (X.take (X.length - 2) ++ crcL (X.take (X.length - 2))) := (oX.take _).append (crcL_ok _)
  have o27 : okB (b ++ crcL b) := hb.append (crcL_ok _)
  have hrun := loop_run (step := F_law05_FrameCanonical_l4 b (X.take (X.length - 2) ++ crcL (X.take (X.length - 2))) (b ++ crcL b)) (S := fun k => (k : Int)) 3 (r := Sum.inl ()) (fun k hk => canon_step hb o26 o27 k hk) rfl
  simp only [Int.natCast_zero] at hrun
  show (loopO (F_law05_FrameCanonical_l4 b (X.take (X.length - 2) ++ crcL (X.take (X.length - 2))) (b ++ crcL b)) 0).bind _ = some true
  rw [hrun, known_true]
  rfl
end Go.Proofs.Ytohfnlkjdjmipaa
