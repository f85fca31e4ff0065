/-
  The reference's Decode, for all lists of bytes; the program's is the same.
-/
import Derived.Test.YtohfnlkjdjmipaaMF11
import Derived.Test.YtohfnlkjdjmipaaMF10
import Derived.Test.YtohfnlkjdjmipaaCe
namespace Go.Proofs.Ytohfnlkjdjmipaa
open Go.RowKit

theorem ru_some {b : List Int} (h : okB b) (hb : b.length ≤ 1000) (i n : Nat) (h1 : 1 ≤ n) (h8 : n ≤ 8) (hi : i + n ≤ b.length) : F_ref01_Uint b i n = some (beN ((b.drop i).take n), true) := by
  unfold F_ref01_Uint
  rw [decF (show ¬ (n : Int) < 1 by omega), decF (show ¬ (n : Int) > 8 by omega), decF (show ¬ (i : Int) < 0 by omega), decF (show ¬ (i : Int) > (b.length : Int) by omega), wi (x := (b.length : Int) - (i : Int)) (by omega) (by omega), decF (show ¬ (n : Int) > (b.length : Int) - (i : Int) by omega)]
  simp only [cond_false]
  have hlen : ((b.drop i).take n).length = n := by rw [List.length_take, List.length_drop]; omega
  have hl := loop_run (step := F_ref01_Uint_l1 n b i) (S := fun k => (beN (((b.drop i).take n).take k), (k : Int))) n (r := beN ((b.drop i).take n)) (fun k hk => by
    unfold F_ref01_Uint_l1
    dsimp only
    rw [decT (show (k : Int) < (n : Int) by omega), wi (x := (i : Int) + (k : Int)) (by omega) (by omega), show (i : Int) + (k : Int) = ((i + k : Nat) : Int) by omega, idx_lt (by omega)]
    simp only [cond_true, Option.bind_some]
    have hk2 : k < ((b.drop i).take n).length := by omega
    have hg : b[i + k] = ((b.drop i).take n)[k] := by rw [List.getElem_take, List.getElem_drop]
    have ho := ((h.drop i).take n)
    have hx := ho.get hk2
    have hbd := beN_bd (ho.take k)
    have hb2 := beN_lt64 (ho.take (k + 1)) (by rw [List.length_take]; omega)
    have es : beN (((b.drop i).take n).take (k + 1)) = beN (((b.drop i).take n).take k) * 256 + ((b.drop i).take n)[k] := by
      rw [take_snoc (List.getElem?_eq_getElem hk2), beN_snoc]
    have e2 : (2 : Int) ^ (8 : Int).toNat = 256 := rfl
    rw [hg, ishl_eq (by omega) (by omega), e2, Int.emod_eq_of_lt (by omega) (by omega), wu (x := ((b.drop i).take n)[k]) (by omega) (by omega), wu (by omega) (by omega), es, wk k (by omega)]) (by
    unfold F_ref01_Uint_l1
    dsimp only
    rw [decF (show ¬ (n : Int) < (n : Int) by omega)]
    simp only [cond_false]
    rw [List.take_of_length_le (by omega)])
  have e0 : loopO (F_ref01_Uint_l1 n b i) (0, 0) = some (beN ((b.drop i).take n)) := hl
  rw [e0]
  rfl
theorem ru_none {b : List Int} (hb : b.length ≤ 1000) (i n : Nat) (h1 : 1 ≤ n) (h8 : n ≤ 8) (hi : b.length < i + n) (hi2 : i ≤ 1000000) : F_ref01_Uint b i n = some (0, false) := by
  unfold F_ref01_Uint
  rw [decF (show ¬ (n : Int) < 1 by omega), decF (show ¬ (n : Int) > 8 by omega), decF (show ¬ (i : Int) < 0 by omega), wi (x := (b.length : Int) - (i : Int)) (by omega) (by omega)]
  by_cases h : (i : Int) > (b.length : Int)
  · rw [decT h]; rfl
  · rw [decF h, decT (show (n : Int) > (b.length : Int) - (i : Int) by omega)]; rfl
/-- any reading ends -/
theorem ru_tot {b : List Int} (h : okB b) (hb : b.length ≤ 1000) (i n : Nat) (h1 : 1 ≤ n) (h8 : n ≤ 8) (hi2 : i ≤ 1000000) : ∃ v ok, F_ref01_Uint b i n = some (v, ok) ∧ 0 ≤ v ∧ v < 18446744073709551616 ∧ (ok = true → i + n ≤ b.length) := by
  by_cases hi : i + n ≤ b.length
  · have hq := beN_lt64 ((h.drop i).take n) (by rw [List.length_take]; omega)
    exact ⟨_, _, ru_some h hb i n h1 h8 hi, hq.1, hq.2, fun _ => hi⟩
  · exact ⟨_, _, ru_none hb i n h1 h8 (by omega) hi2, by omega, by omega, fun e => by cases e⟩
theorem read_tot {b : List Int} (h : okB b) (hb : b.length ≤ 1000) (i : Nat) (hi2 : i ≤ 1000) (m : Int) : ∃ (a : S_Addr) (j : Nat) (ok : Bool), F_ref05_read b i m = some (a, (j : Int), ok) ∧ AdrWf a ∧ i ≤ j ∧ j ≤ i + 8 ∧ (ok = true → i ≤ b.length → j ≤ b.length) := by
  unfold F_ref05_read
  obtain ⟨v2, o2, e2, b20, b21, q2⟩ := ru_tot h hb i 2 (by omega) (by omega) (by omega)
  obtain ⟨v8, o8, e8, b80, b81, q8⟩ := ru_tot h hb i 8 (by omega) (by omega) (by omega)
  have e2' : F_ref01_Uint b i 2 = some (v2, o2) := e2
  have e8' : F_ref01_Uint b i 8 = some (v8, o8) := e8
  have w2 : IntKind.wrap .i64 ((i : Int) + 2) = ((i + 2 : Nat) : Int) := by rw [wi (by omega) (by omega)]; rfl
  have w8 : IntKind.wrap .i64 ((i : Int) + 8) = ((i + 8 : Nat) : Int) := by rw [wi (by omega) (by omega)]; rfl
  have z16 : (0 : Int) ≤ 0 ∧ (0 : Int) ≤ 65535 := by omega
  have z64 : (0 : Int) ≤ 0 ∧ (0 : Int) ≤ 18446744073709551615 := by omega
  rw [e2', e8']
  cases m == 0
  · cases m == 2
    · cases m == 3
      · exact ⟨_, i, _, rfl, ⟨z16, z64⟩, by omega, by omega, fun e => by cases e⟩
      · simp only [cond_true, cond_false, Option.bind_some, w8]
        exact ⟨_, i + 8, _, rfl, ⟨z16, ⟨b80, by dsimp only; omega⟩⟩, by omega, by omega, fun e _ => q8 e⟩
    · simp only [cond_true, cond_false, Option.bind_some, w2]
      exact ⟨_, i + 2, _, rfl, ⟨by dsimp only; rw [wrap16]; omega, z64⟩, by omega, by omega, fun e _ => q2 e⟩
  · exact ⟨_, i, _, rfl, ⟨z16, z64⟩, by omega, by omega, fun _ q => q⟩
theorem rj2_tot {b : List Int} (h : okB b) (hb : b.length ≤ 1000) {g : S_Frame} (w : WfF g) (i j : Nat) (hi : i ≤ j) (hj : j ≤ b.length) : F_ref05_parse_j2 b ((i : Int), (j : Int), g) = some (S_Frame.mk g.Kind g.AckRequest g.Pending g.Secure g.Seq g.Pan g.Dst g.Src g.Counter g.Key ((b.take j).drop i) (b.drop j), true) ∧ WfF (S_Frame.mk g.Kind g.AckRequest g.Pending g.Secure g.Seq g.Pan g.Dst g.Src g.Counter g.Key ((b.take j).drop i) (b.drop j)) := by
  unfold F_ref05_parse_j2
  dsimp only
  rw [subO_some (by omega) (by omega) (by omega), Option.bind_some]
  simp only [Int.toNat_natCast, Cut.app]
  rw [appO_some (by simp; omega) (by simp; omega), Option.bind_some, subO_some (by omega) (by omega) (by omega), Option.bind_some]
  simp only [Int.toNat_natCast, List.take_length, List.nil_append]
  rw [appO_some (by simp; omega) (by simp; omega)]
  refine ⟨rfl, w.seq, w.pan, w.dst, w.src, w.cnt, w.key, (h.take j).drop i, ?_, h.drop j, ?_⟩
  · dsimp only; rw [List.length_drop, List.length_take]; omega
  · dsimp only; rw [List.length_drop]; omega
theorem rj1_tot {b : List Int} (h : okB b) (hb : b.length ≤ 1000) {g : S_Frame} (w : WfF g) (i : Nat) (hi2 : i ≤ 1000) (b1 b2 : Bool) (hi : b1 = true → b2 = true → i ≤ b.length) : ∃ p ok, F_ref05_parse_j1 b ((i : Int), b1, b2, g) = some (p, ok) ∧ WfF p := by
  unfold F_ref05_parse_j1
  obtain ⟨v4, o4, e4, b40, b41, q4⟩ := ru_tot h hb i 4 (by omega) (by omega) (by omega)
  obtain ⟨v1, o1, e1, b10, b11, q1⟩ := ru_tot h hb (i + 4) 1 (by omega) (by omega) (by omega)
  have e4' : F_ref01_Uint b i 4 = some (v4, o4) := e4
  have e1' : F_ref01_Uint b ((i + 4 : Nat) : Int) 1 = some (v1, o1) := e1
  have w4 : IntKind.wrap .i64 ((i : Int) + 4) = ((i + 4 : Nat) : Int) := by rw [wi (by omega) (by omega)]; rfl
  have w5 : IntKind.wrap .i64 ((i : Int) + 5) = ((i + 5 : Nat) : Int) := by rw [wi (by omega) (by omega)]; rfl
  have wl : IntKind.wrap .i64 ((b.length : Int) - 4) = (b.length : Int) - 4 := wi (by omega) (by omega)
  dsimp only
  cases b1
  · exact ⟨_, _, rfl, w⟩
  · cases b2
    · exact ⟨_, _, rfl, w⟩
    · have hle := hi rfl rfl
      simp only [cond_true]
      cases g.Secure
      · exact ⟨_, _, (rj2_tot h hb w i b.length hle (Nat.le_refl _)).1, (rj2_tot h hb w i b.length hle (Nat.le_refl _)).2⟩
      · simp only [cond_true, e4', w4, e1', w5, wl, Option.bind_some]
        cases o4
        · exact ⟨_, _, rfl, w⟩
        · cases o1
          · exact ⟨_, _, rfl, w⟩
          · simp only [cond_true]
            have hq := q1 rfl
            by_cases hc : (b.length : Int) - 4 < ((i + 5 : Nat) : Int)
            · rw [decT hc]
              exact ⟨_, _, rfl, w⟩
            · rw [decF hc]
              simp only [cond_false]
              have wg : WfF (S_Frame.mk g.Kind g.AckRequest g.Pending true g.Seq g.Pan g.Dst g.Src (IntKind.wrap .u32 v4) (IntKind.wrap .u8 v1) g.Payload g.MIC) := ⟨w.seq, w.pan, w.dst, w.src, by dsimp only; rw [wrap32]; omega, by dsimp only; rw [wrap8]; omega, w.pay, w.payl, w.mic, w.micl⟩
              have r := rj2_tot h hb wg (i + 5) (b.length - 4) (by omega) (by omega)
              rw [show ((b.length - 4 : Nat) : Int) = (b.length : Int) - 4 by omega] at r
              exact ⟨_, _, r.1, r.2⟩
theorem rparse_tot {b c : List Int} (h : okB b) (hb : b.length ≤ 1000) (h3 : 3 ≤ b.length) (hc : c.length = 2) : ∃ p ok, F_ref05_parse (b ++ c) = some (p, ok) ∧ WfF p := by
  unfold F_ref05_parse
  have el : IntKind.wrap .i64 (((b ++ c).length : Int) - 2) = (b.length : Int) := by
    rw [List.length_append, wi (by omega) (by omega)]; omega
  rw [el, subO_some (by omega) (by omega) (by rw [List.length_append]; omega)]
  simp only [Option.bind_some, Int.toNat_natCast, Int.toNat_zero, List.drop_zero, List.take_left]
  have i0 : idx b 0 = some b[0] := idx_lt (k := 0) (by omega)
  have i1 : idx b 1 = some b[1] := idx_lt (k := 1) (by omega)
  have i2 : idx b 2 = some b[2] := idx_lt (k := 2) (by omega)
  simp only [i0, i1, i2, Option.bind_some]
  have hs := h.get (show 2 < b.length by omega)
  have z8 : (0 : Int) ≤ 0 ∧ (0 : Int) ≤ 255 := by omega
  have z16 : (0 : Int) ≤ 0 ∧ (0 : Int) ≤ 65535 := by omega
  have z32 : (0 : Int) ≤ 0 ∧ (0 : Int) ≤ 4294967295 := by omega
  have za : AdrWf (S_Addr.mk 0 0 0) := ⟨z16, by dsimp only; omega⟩
  have n0 : ([] : List Int).length ≤ 140737488351232 := by simp
  cases (iquo .i64 (IntKind.wrap .i64 b[0]) 64) != 2
  · exact rj1_tot h hb ⟨hs, z16, za, za, z32, z8, okB_nil, n0, okB_nil, n0⟩ 3 (by omega) true true (fun _ _ => h3)
  · obtain ⟨v2, o2, e2, _, _, q2⟩ := ru_tot h hb 3 2 (by omega) (by omega) (by omega)
    have e2' : F_ref01_Uint b 3 2 = some (v2, o2) := e2
    obtain ⟨a5, j5, o5, e5, w5, g5, l5, q5⟩ := read_tot h hb 5 (by omega) (iquo .i64 (IntKind.wrap .i64 b[1]) 64)
    obtain ⟨a6, j6, o6, e6, w6, g6, l6, q6⟩ := read_tot h hb j5 (by omega) (Int.tmod (iquo .i64 (IntKind.wrap .i64 b[1]) 16) 4)
    have e5' : F_ref05_read b (IntKind.wrap .i64 (3 + 2)) (iquo .i64 (IntKind.wrap .i64 b[1]) 64) = some (a5, (j5 : Int), o5) := e5
    simp only [cond_true, e2', e5', e6, Option.bind_some]
    have wg : ∀ k a p s, WfF (S_Frame.mk k a p s b[2] (IntKind.wrap .u16 v2) a5 a6 0 0 [] []) := fun _ _ _ _ => ⟨hs, by dsimp only; rw [wrap16]; omega, w5, w6, z32, z8, okB_nil, n0, okB_nil, n0⟩
    cases o5
    · exact rj1_tot h hb (wg _ _ _ _) j6 (by omega) false o6 (fun e => by cases e)
    · exact rj1_tot h hb (wg _ _ _ _) j6 (by omega) o2 o6 (fun e e' => q6 e' (q5 rfl (by have := q2 e; omega)))

theorem ru_at {x y z : List Int} (h : okB (x ++ (y ++ z))) (hb : (x ++ (y ++ z)).length ≤ 1000) (i n : Int) (hi : i = (x.length : Int)) (hn : n = (y.length : Int)) (h1 : 1 ≤ y.length) (h8 : y.length ≤ 8) : F_ref01_Uint (x ++ (y ++ z)) i n = some (beN y, true) := by
  subst hi hn
  rw [ru_some h hb x.length y.length h1 h8 (by simp only [List.length_append]; omega), List.drop_left, List.take_left]
theorem read_at {x z : List Int} {a : S_Addr} (ha : AdrOk a) (h : okB (x ++ (adrL a ++ z))) (hb : (x ++ (adrL a ++ z)).length ≤ 1000) (i : Int) (hi : i = (x.length : Int)) : F_ref05_read (x ++ (adrL a ++ z)) i a.Mode = some (a, ((x ++ adrL a).length : Int), true) := by
  unfold F_ref05_read
  obtain ⟨m, s, e⟩ := a
  have hx : x.length ≤ 1000 := by rw [List.length_append] at hb; omega
  have hl := adrL_len ⟨m, s, e⟩
  rcases ha with ⟨h1, h2, h3, h4⟩ | ⟨h1, h2, h3, h4⟩
  · dsimp only at h1 h2 h3 h4 hl ⊢
    subst h1 h2
    rw [if_pos rfl] at hl
    have ea : adrL ⟨2, s, 0⟩ = beB s 2 := rfl
    have e2 := ru_at h hb i 2 hi (by rw [hl]; rfl) (by omega) (by omega)
    rw [show ((2 : Int) == 0) = false by rfl, show ((2 : Int) == 2) = true by rfl, e2, ea, beN_eq h3 (show s < 256 ^ 2 by omega)]
    simp only [cond_true, cond_false, Option.bind_some]
    rw [wrap16, Int.emod_eq_of_lt h3 (by omega), wi (by omega) (by omega), List.length_append, beB_len, hi]
    rfl
  · dsimp only at h1 h2 h3 h4 hl ⊢
    subst h1 h2
    rw [if_neg (show ¬ (3 : Int) = 2 by omega)] at hl
    have ea : adrL ⟨3, 0, e⟩ = beB e 8 := rfl
    have e2 := ru_at h hb i 8 hi (by rw [hl]; rfl) (by omega) (by omega)
    rw [show ((3 : Int) == 0) = false by rfl, show ((3 : Int) == 2) = false by rfl, show ((3 : Int) == 3) = true by rfl, e2, ea, beN_eq h3 (show e < 256 ^ 8 by omega)]
    simp only [cond_true, cond_false, Option.bind_some]
    rw [wi (by omega) (by omega), List.length_append, beB_len, hi]
    rfl
theorem rb0_kind (k : Int) (a p s : Bool) (h : k = 1 ∨ k = 2 ∨ k = 3) : iquo .i64 (IntKind.wrap .i64 (64 * k + flg a 32 + flg p 16 + flg s 8)) 64 = k := by
  rcases h with rfl | rfl | rfl <;> cases a <;> cases p <;> cases s <;> decide
theorem rb0_a (k : Int) (a p s : Bool) (h : k = 1 ∨ k = 2 ∨ k = 3) : ((iand .u8 (64 * k + flg a 32 + flg p 16 + flg s 8) 32) != 0) = a := by
  rcases h with rfl | rfl | rfl <;> cases a <;> cases p <;> cases s <;> decide
theorem rb0_p (k : Int) (a p s : Bool) (h : k = 1 ∨ k = 2 ∨ k = 3) : ((iand .u8 (64 * k + flg a 32 + flg p 16 + flg s 8) 16) != 0) = p := by
  rcases h with rfl | rfl | rfl <;> cases a <;> cases p <;> cases s <;> decide
theorem rb0_s (k : Int) (a p s : Bool) (h : k = 1 ∨ k = 2 ∨ k = 3) : ((iand .u8 (64 * k + flg a 32 + flg p 16 + flg s 8) 8) != 0) = s := by
  rcases h with rfl | rfl | rfl <;> cases a <;> cases p <;> cases s <;> decide
theorem rb1_d (k s : Int) (h : k = 0 ∨ k = 2 ∨ k = 3) (h' : s = 0 ∨ s = 2 ∨ s = 3) : iquo .i64 (IntKind.wrap .i64 (64 * k + 16 * s)) 64 = k := by
  rcases h with rfl | rfl | rfl <;> rcases h' with rfl | rfl | rfl <;> decide
theorem rb1_s (k s : Int) (h : k = 0 ∨ k = 2 ∨ k = 3) (h' : s = 0 ∨ s = 2 ∨ s = 3) : Int.tmod (iquo .i64 (IntKind.wrap .i64 (64 * k + 16 * s)) 16) 4 = s := by
  rcases h with rfl | rfl | rfl <;> rcases h' with rfl | rfl | rfl <;> decide
theorem rj1_enc {f g : S_Frame} (h : GoodF f) (w : WfF g) (e1 : g.Secure = f.Secure) (e2 : g.Counter = 0) (e3 : g.Key = 0) {x : List Int} (hx : okB x) (hl : x.length ≤ 100) : F_ref05_parse_j1 (x ++ (secs f ++ (f.Payload ++ f.MIC))) ((x.length : Int), true, true, g) = some (S_Frame.mk g.Kind g.AckRequest g.Pending g.Secure g.Seq g.Pan g.Dst g.Src f.Counter f.Key f.Payload f.MIC, true) := by
  obtain ⟨hP, hM⟩ := good_pay h
  have hpm : okB (f.Payload ++ f.MIC) := h.pay.append h.mic
  have hpl : (f.Payload ++ f.MIC).length ≤ 254 := by rw [List.length_append]; omega
  cases hs : f.Secure
  · obtain ⟨c, k, m⟩ := h.nos hs
    have es : secs f = [] := by unfold secs; rw [hs]; rfl
    rw [es, m, List.append_nil, List.nil_append]
    unfold F_ref05_parse_j1
    simp only [cond_true, e1, hs, cond_false]
    have o : okB (x ++ f.Payload) := hx.append h.pay
    have r := (rj2_tot o (by rw [List.length_append]; omega) w x.length (x ++ f.Payload).length (by rw [List.length_append]; omega) (Nat.le_refl _)).1
    rw [List.take_length, List.drop_left, List.drop_length] at r
    rw [r, e1, hs, e2, e3, c, k]
  · obtain ⟨c0, c1, k0, k1, m⟩ := h.sec hs
    have es : secs f ++ (f.Payload ++ f.MIC) = beB f.Counter 4 ++ ([f.Key] ++ (f.Payload ++ f.MIC)) := by
      unfold secs; rw [hs]; simp only [cond_true, List.append_assoc]
    rw [es]
    unfold F_ref05_parse_j1
    simp only [cond_true, e1, hs]
    have oB : okB (x ++ (beB f.Counter 4 ++ ([f.Key] ++ (f.Payload ++ f.MIC)))) := hx.append ((beB_ok _ _).append ((okB_one ⟨k0, k1⟩).append hpm))
    have lB : (x ++ (beB f.Counter 4 ++ ([f.Key] ++ (f.Payload ++ f.MIC)))).length = x.length + 5 + (f.Payload.length + 4) := by
      simp only [List.length_append, beB_len, List.length_singleton, m]; omega
    have a1 := ru_at oB (by omega) (x.length : Int) 4 rfl (by rw [beB_len]; rfl) (by rw [beB_len]; omega) (by rw [beB_len]; omega)
    have eB : x ++ (beB f.Counter 4 ++ ([f.Key] ++ (f.Payload ++ f.MIC))) = (x ++ beB f.Counter 4) ++ ([f.Key] ++ (f.Payload ++ f.MIC)) := by rw [List.append_assoc]
    have a2 := ru_at (x := x ++ beB f.Counter 4) (y := [f.Key]) (z := f.Payload ++ f.MIC) (by rw [← eB]; exact oB) (by rw [← eB]; omega) (IntKind.wrap .i64 ((x.length : Int) + 4)) 1 (by rw [wi (by omega) (by omega), List.length_append, beB_len]; rfl) rfl (by simp) (by simp)
    rw [← eB] at a2
    rw [a1, a2, beN_eq c0 (show f.Counter < 256 ^ 4 by omega), beN_one]
    simp only [Option.bind_some, cond_true]
    have wl : IntKind.wrap .i64 (((x ++ (beB f.Counter 4 ++ ([f.Key] ++ (f.Payload ++ f.MIC)))).length : Int) - 4) = ((x.length + 5 + f.Payload.length : Nat) : Int) := by
      rw [lB, wi (by omega) (by omega)]; omega
    have w5 : IntKind.wrap .i64 ((x.length : Int) + 5) = ((x.length + 5 : Nat) : Int) := by rw [wi (by omega) (by omega)]; rfl
    rw [wl, w5, decF (show ¬ ((x.length + 5 + f.Payload.length : Nat) : Int) < ((x.length + 5 : Nat) : Int) by omega)]
    simp only [cond_false]
    have wg : WfF (S_Frame.mk g.Kind g.AckRequest g.Pending true g.Seq g.Pan g.Dst g.Src (IntKind.wrap .u32 f.Counter) (IntKind.wrap .u8 f.Key) g.Payload g.MIC) := ⟨w.seq, w.pan, w.dst, w.src, by dsimp only; rw [wrap32]; omega, by dsimp only; rw [wrap8]; omega, w.pay, w.payl, w.mic, w.micl⟩
    have r := (rj2_tot oB (by omega) wg (x.length + 5) (x.length + 5 + f.Payload.length) (by omega) (by omega)).1
    have eX : x ++ (beB f.Counter 4 ++ ([f.Key] ++ (f.Payload ++ f.MIC))) = ((x ++ beB f.Counter 4 ++ [f.Key]) ++ f.Payload) ++ f.MIC := by simp only [List.append_assoc]
    have l5 : (x ++ beB f.Counter 4 ++ [f.Key]).length = x.length + 5 := by simp only [List.length_append, beB_len, List.length_singleton]
    have t1 : (x ++ (beB f.Counter 4 ++ ([f.Key] ++ (f.Payload ++ f.MIC)))).take (x.length + 5 + f.Payload.length) = (x ++ beB f.Counter 4 ++ [f.Key]) ++ f.Payload := by
      rw [eX]; exact List.take_left' (by rw [List.length_append, l5])
    have t2 : (x ++ (beB f.Counter 4 ++ ([f.Key] ++ (f.Payload ++ f.MIC)))).drop (x.length + 5 + f.Payload.length) = f.MIC := by
      rw [eX]; exact List.drop_left' (by rw [List.length_append, l5])
    rw [t1, t2, List.drop_left' l5] at r
    rw [r, wrap32, Int.emod_eq_of_lt c0 (by omega), wu8 k0 (by omega)]

theorem r_parse {f : S_Frame} (h : GoodF f) : F_ref05_parse (encL f) = some (f, true) := by
  obtain ⟨md, ms⟩ := good_modes h
  have hb := bodyL_len h
  have ob := bodyL_ok h
  have h3 := hd3_ok h
  have eb : bodyL f = hd3 f ++ (adrs f ++ (secs f ++ (f.Payload ++ f.MIC))) := by
    unfold bodyL hdL
    simp only [List.append_assoc]
  have el : IntKind.wrap .i64 (((encL f).length : Int) - 2) = ((bodyL f).length : Int) := by
    rw [encL_len, wi (by omega) (by omega)]; omega
  have et : ((encL f).take (bodyL f).length) = bodyL f := by unfold encL; exact List.take_left
  unfold F_ref05_parse
  rw [el, subO_some (by omega) (by omega) (by rw [encL_len]; omega)]
  simp only [Option.bind_some, Int.toNat_natCast, Int.toNat_zero, List.drop_zero, et]
  have i0 : idx (bodyL f) 0 = some (64 * f.Kind + flg f.AckRequest 32 + flg f.Pending 16 + flg f.Secure 8) := by rw [eb]; rfl
  have i1 : idx (bodyL f) 1 = some (64 * f.Dst.Mode + 16 * f.Src.Mode) := by rw [eb]; rfl
  have i2 : idx (bodyL f) 2 = some f.Seq := by rw [eb]; rfl
  have z8 : (0 : Int) ≤ 0 ∧ (0 : Int) ≤ 255 := by omega
  have z16 : (0 : Int) ≤ 0 ∧ (0 : Int) ≤ 65535 := by omega
  have z32 : (0 : Int) ≤ 0 ∧ (0 : Int) ≤ 4294967295 := by omega
  have za : AdrWf (S_Addr.mk 0 0 0) := ⟨z16, by dsimp only; omega⟩
  have n0 : ([] : List Int).length ≤ 140737488351232 := by simp
  simp only [i0, i1, i2, Option.bind_some, rb0_kind _ _ _ _ h.kind, rb0_a _ _ _ _ h.kind, rb0_p _ _ _ _ h.kind, rb0_s _ _ _ _ h.kind, rb1_d _ _ md ms, rb1_s _ _ md ms]
  by_cases hk : f.Kind = 2
  · have e := h.ack hk
    rw [show (f.Kind != 2) = false by simp [hk]]
    have ea : adrs f = [] := by unfold adrs; rw [if_pos hk]
    rw [ea, List.nil_append] at eb
    simp only [cond_false]
    rw [eb]
    refine (rj1_enc h (x := hd3 f) ?_ ?_ ?_ ?_ h3 (by rw [hd3_len]; omega)).trans ?_
    · exact ⟨h.seq, z16, za, za, z32, z8, okB_nil, n0, okB_nil, n0⟩
    · rfl
    · rfl
    · rfl
    · rw [e]
      rfl
  · obtain ⟨d, s, nb, na, p0, p1⟩ := h.adr hk
    rw [show (f.Kind != 2) = true by simp [hk]]
    have l1 := adrL_le f.Dst
    have l2 := adrL_le f.Src
    have eb1 : bodyL f = hd3 f ++ (beB f.Pan 2 ++ (adrL f.Dst ++ (adrL f.Src ++ (secs f ++ (f.Payload ++ f.MIC))))) := by
      rw [eb]; unfold adrs; rw [if_neg hk]; simp only [List.append_assoc]
    have eb2 : bodyL f = (hd3 f ++ beB f.Pan 2) ++ (adrL f.Dst ++ (adrL f.Src ++ (secs f ++ (f.Payload ++ f.MIC)))) := by rw [eb1]; simp only [List.append_assoc]
    have eb3 : bodyL f = (hd3 f ++ beB f.Pan 2 ++ adrL f.Dst) ++ (adrL f.Src ++ (secs f ++ (f.Payload ++ f.MIC))) := by rw [eb1]; simp only [List.append_assoc]
    have eb4 : bodyL f = (hd3 f ++ beB f.Pan 2 ++ adrL f.Dst ++ adrL f.Src) ++ (secs f ++ (f.Payload ++ f.MIC)) := by rw [eb1]; simp only [List.append_assoc]
    have s0 := ru_at (x := hd3 f) (y := beB f.Pan 2) (by rw [← eb1]; exact ob) (by rw [← eb1]; omega) 3 2 rfl (by rw [beB_len]; rfl) (by rw [beB_len]; omega) (by rw [beB_len]; omega)
    rw [← eb1] at s0
    have s1 := read_at d (by rw [← eb2]; exact ob) (by rw [← eb2]; omega) (IntKind.wrap .i64 (3 + 2)) (by rw [wi (by omega) (by omega), List.length_append, hd3_len, beB_len]; rfl)
    rw [← eb2] at s1
    have s2 := read_at s (by rw [← eb3]; exact ob) (by rw [← eb3]; omega) _ rfl
    rw [← eb3] at s2
    simp only [cond_true, s0, s1, s2, Option.bind_some]
    rw [eb4]
    refine (rj1_enc h (x := hd3 f ++ beB f.Pan 2 ++ adrL f.Dst ++ adrL f.Src) ?_ ?_ ?_ ?_ ?_ ?_).trans ?_
    · exact ⟨h.seq, by dsimp only; rw [wrap16]; omega, (good_wf h).dst, (good_wf h).src, z32, z8, okB_nil, n0, okB_nil, n0⟩
    · rfl
    · rfl
    · rfl
    · exact ((h3.append (beB_ok _ _)).append (adrL_ok _)).append (adrL_ok _)
    · simp only [List.length_append, hd3_len, beB_len]; omega
    · dsimp only
      rw [beN_eq p0 (show f.Pan < 256 ^ 2 by omega), wrap16, Int.emod_eq_of_lt p0 (by omega)]

theorem check_same : F_ref02_Check = F_checksum_Check := by
  funext a
  rfl
def zeroF : S_Frame := S_Frame.mk 0 false false false 0 0 (S_Addr.mk 0 0 0) (S_Addr.mk 0 0 0) 0 0 [] []
theorem dec_both {l : List Int} (h : okB l) : (∃ f, GoodF f ∧ F_frame_Decode l = some (f, 0) ∧ F_ref05_Decode l = some (f, 0)) ∨ (∃ e, F_frame_Decode l = some (zeroF, e) ∧ F_ref05_Decode l = some (zeroF, e)) := by
  unfold F_ref05_Decode
  rw [check_same]
  by_cases hx : ∃ f, GoodF f ∧ l = encL f
  · obtain ⟨f, g, rfl⟩ := hx
    refine Or.inl ⟨f, g, f_decode g, ?_⟩
    have hb := bodyL_len g
    have hl := encL_len (f := f)
    rw [decF (show ¬ ((encL f).length : Int) > 127 by omega), decF (show ¬ ((encL f).length : Int) < 5 by omega)]
    have ec : F_checksum_Check (encL f) = some true := by
      have := crc_check (l := bodyL f) (x := toI (crcV (bodyL f)) % 256) (y := toI (crcV (bodyL f)) / 256) (bodyL_ok g) (by omega)
      rw [show decide ([toI (crcV (bodyL f)) % 256, toI (crcV (bodyL f)) / 256] = crcL (bodyL f)) = true from decide_eq_true rfl] at this
      exact this
    simp only [cond_false, ec, Option.bind_some, cond_true, r_parse g, r_encode g]
    rw [show ((0 : Int) != 0) = false by rfl, same_refl _ (by omega)]
    rfl
  refine Or.inr ?_
  unfold F_frame_Decode
  by_cases h1 : (l.length : Int) > 127
  · rw [decT h1]
    exact ⟨_, rfl, rfl⟩
  rw [decF h1]
  by_cases h2 : (l.length : Int) < 5
  · rw [decT h2]
    exact ⟨_, rfl, rfl⟩
  rw [decF h2]
  simp only [cond_false]
  rcases check_any h (by omega) (by omega) with ⟨b, e, ec⟩ | ec
  · have hbl : b.length + 2 = l.length := by rw [e, List.length_append, crcL_len]
    have hb : okB b := fun z hz => h z (by rw [e]; exact List.mem_append_left _ hz)
    rw [ec]
    simp only [Option.bind_some, cond_true]
    rw [wi (by omega) (by omega), subO_some (by omega) (by omega) (by omega)]
    have et : (l.take (((l.length : Int) - 2).toNat)).drop (0 : Int).toNat = b := by
      rw [Int.toNat_zero, List.drop_zero, e]
      exact List.take_left' (by rw [List.length_append, crcL_len]; omega)
    simp only [Option.bind_some]
    rw [et]
    refine ⟨5, ?_, ?_⟩
    · obtain ⟨p, ok, ep, wp⟩ := parse_tot hb (by omega)
      rw [ep]
      simp only [Option.bind_some]
      cases ok
      · rfl
      · rcases enc_any wp with ⟨g, e1, _⟩ | ⟨_, e1, _⟩
        · rw [e1]
          simp only [cond_true, Option.bind_some]
          have hne : encL p ≠ l := fun q => hx ⟨p, g, q.symm⟩
          unfold F_bytes_Equal
          simp only [Cut.app, Option.bind_some]
          rw [u8L_beq (encL_ok g) h, decF hne]
          rfl
        · rw [e1]
          rfl
    · obtain ⟨p, ok, ep, wp⟩ := rparse_tot (c := crcL b) hb (by omega) (by omega) rfl
      rw [← e] at ep
      rw [ep]
      simp only [Option.bind_some]
      cases ok
      · rfl
      · rcases enc_any wp with ⟨g, _, e1⟩ | ⟨_, _, e1⟩
        · rw [e1]
          simp only [cond_true, Option.bind_some]
          have hne : l ≠ encL p := fun q => hx ⟨p, g, q⟩
          rw [same_spec l _ (by omega), decF hne]
          rfl
        · rw [e1]
          rfl
  · rw [ec]
    exact ⟨_, rfl, rfl⟩
theorem same_law {l : List Int} (h : okB l) : F_law05_same l = some true := by
  unfold F_law05_same
  rcases dec_both h with ⟨f, g, e1, e2⟩ | ⟨e, e1, e2⟩
  · have hp := good_pay g
    simp only [e1, e2, Option.bind_some, BEq.rfl, cond_true, fsame_refl' (f := f) (by omega) (by omega)]
  · simp only [e1, e2, Option.bind_some, BEq.rfl, cond_true, fsame_refl' (f := zeroF) (by decide) (by decide)]
theorem reads_law {b : List Int} (hb : okB b) (hbl : b.length ≤ 140737488351232) (t : List Int) (a y c : Int) : F_law05_FrameReads b t a y c = some true := by
  unfold F_law05_FrameReads
  obtain ⟨k, e1, k1⟩ := new_spec t
  obtain ⟨f, k2, e2, g, _⟩ := any_spec k1
  have hb2 := bodyL_len g
  have hl := encL_len (f := f)
  have w1 : IntKind.wrap .i64 (((encL f).length : Int) - 2) = ((bodyL f).length : Int) := by rw [wi (by omega) (by omega)]; omega
  simp only [e1, e2, r_encode g, Option.bind_some]
  rw [decF (show ¬ ((encL f).length : Int) < 2 by omega), w1]
  simp only [cond_false]
  rw [subO_some (by omega) (by omega) (by omega)]
  have et : ((encL f).take ((bodyL f).length : Int).toNat).drop (0 : Int).toNat = bodyL f := by
    rw [Int.toNat_zero, List.drop_zero, Int.toNat_natCast]; unfold encL; exact List.take_left
  simp only [Option.bind_some, et, Cut.app, List.take_nil]
  rw [appO_some (by simp; omega) (by simp; omega), Option.bind_some, List.nil_append]
  obtain ⟨v, ev, v0, v1⟩ := mod_spec a ((bodyL f).length : Int) (by omega) (by omega)
  obtain ⟨j, rfl⟩ := Int.eq_ofNat_of_zero_le v0
  have hj : j < (bodyL f).length := by omega
  rw [ev]
  simp only [Option.bind_some, Nat.zero_add, Int.toNat_natCast]
  rw [idx_lt hj, List.getElem?_eq_getElem hj]
  simp only [Option.bind_some]
  obtain ⟨X, hX⟩ : ∃ X, (bodyL f).set j (ixor .u8 (bodyL f)[j] y) = X := ⟨_, rfl⟩
  simp only [hX]
  have oX : okB X := by rw [← hX]; exact (bodyL_ok g).set _ (wrap8_bd _)
  have lX : X.length = (bodyL f).length := by rw [← hX, List.length_set]
  rw [show IntKind.wrap .i64 ((X.length : Int) + 1) = ((X.length + 1 : Nat) : Int) by rw [wi (by omega) (by omega)]; rfl]
  obtain ⟨v', ev', v0', v1'⟩ := mod_spec c ((X.length + 1 : Nat) : Int) (by omega) (by omega)
  rw [ev']
  simp only [Option.bind_some]
  rw [decT (show (0 : Int) ≤ 0 ∧ 0 ≤ v' ∧ v' ≤ (X.length : Int) by omega)]
  simp only [cond_true, known_true, Option.bind_some, same_law hb, same_law (encL_ok g)]
  rw [subO_some (by omega) (by omega) (by omega)]
  simp only [Option.bind_some]
  have o23 : okB (((encL f).take ((encL f).length : Int).toNat).drop ((bodyL f).length : Int).toNat) := ((encL_ok g).take _).drop _
  have l23 : (((encL f).take ((encL f).length : Int).toNat).drop ((bodyL f).length : Int).toNat).length ≤ 127 := by
    rw [List.length_drop, List.length_take]; omega
  rw [appO_some (by omega) (by omega), Option.bind_some, same_law (oX.append o23), Option.bind_some]
  have oT : okB (X.take v'.toNat) := oX.take _
  have lT : (X.take v'.toNat).length ≤ 127 := by rw [List.length_take]; omega
  simp only [cond_true]
  rw [ref_append oX (by omega), Option.bind_some, same_law (oX.append (crcL_ok _)), Option.bind_some]
  simp only [cond_true]
  rw [ref_append oT (by omega), Option.bind_some, same_law (oT.append (crcL_ok _)), Option.bind_some]
  simp only [cond_true]
  rw [ref_append hb (by omega), Option.bind_some, same_law (hb.append (crcL_ok _))]
  rfl
end Go.Proofs.Ytohfnlkjdjmipaa
