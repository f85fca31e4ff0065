/-
  Settings as bytes.
-/
import Derived.Test.YtcjoflgnifafiaaMS2
import Derived.Test.YtcjoflgnifafiaaQGet
namespace Go.Proofs.Ytcjoflgnifafiaa
open Go.RowKit

def encS (s : S_Settings) : List Int := beB (IntKind.wrap .u64 s.Version) 4 ++ s.Tag ++ s.Data
theorem prog_enc {s : S_Settings} (h : wfS s) : F_management_EncodeSettings s = some (if validS s then (encS s, 0) else ([], 1)) := by
  unfold F_management_EncodeSettings
  rw [prog_valid, Option.bind_some]
  cases hv : validS s with
  | false => rfl
  | true =>
    simp only [cond_true, if_true]
    have a1 := octets_append [] (IntKind.wrap .u64 s.Version) 4 (by omega) (by simp)
    rw [show ((4 : Nat) : Int) = 4 from rfl, List.nil_append] at a1
    have hs := h.small
    have ht := h.len
    rw [a1, Option.bind_some]
    simp only [Cut.app]
    rw [arrL_id h.len, appO_some (by simp [beB_len]; omega) (by simp [beB_len]; omega), Option.bind_some, appO_some (by simp [beB_len]; omega) (by simp [beB_len]; omega)]
    rfl
theorem ref_enc {s : S_Settings} (h : wfS s) : F_ref39_EncodeSettings s = some (if validS s then (encS s, 0) else ([], 1)) := by
  unfold F_ref39_EncodeSettings
  rw [ref_valid, Option.bind_some]
  cases hv : validS s with
  | false => rfl
  | true =>
    simp only [cond_true, if_true]
    have a1 := put_n (IntKind.wrap .u64 s.Version) 4 (by omega)
    rw [show ((4 : Nat) : Int) = 4 from rfl] at a1
    have hs := h.small
    have ht := h.len
    rw [a1, Option.bind_some]
    have hl := loop_run (step := F_ref39_EncodeSettings_l1 s) (S := fun k => (beB (IntKind.wrap .u64 s.Version) 4 ++ s.Tag.take k, (k : Int))) 8 (r := beB (IntKind.wrap .u64 s.Version) 4 ++ s.Tag) (fun k hk => by
      unfold F_ref39_EncodeSettings_l1
      dsimp only
      rw [decT (show (k : Int) < 8 by omega), decT (show (0 : Int) ≤ (k : Int) ∧ (k : Int) < (8 : Int) by omega)]
      simp only [cond_true, Cut.app, Int.toNat_natCast]
      rw [appO_some (by simp [beB_len]; omega) (by simp [beB_len]; omega), Option.bind_some, getD_get (by omega), take_snoc (List.getElem?_eq_getElem (by omega)), wk k (by omega), List.append_assoc]) (by
      unfold F_ref39_EncodeSettings_l1
      dsimp only
      rw [decF (show ¬ ((8 : Nat) : Int) < 8 by omega)]
      simp only [cond_false]
      rw [List.take_of_length_le (by omega)])
    have e0 : loopO (F_ref39_EncodeSettings_l1 s) (beB (IntKind.wrap .u64 s.Version) 4, 0) = some (beB (IntKind.wrap .u64 s.Version) 4 ++ s.Tag) := by
      have := hl
      simp only [List.take_zero, List.append_nil] at this
      exact this
    rw [e0, Option.bind_some]
    simp only [Cut.app]
    rw [appO_some (by simp [beB_len]; omega) (by simp [beB_len]; omega)]
    rfl
theorem encS_ok {s : S_Settings} (h : wfS s) : okB (encS s) := ((beB_ok _ _).append h.tag).append h.data
theorem encS_len {s : S_Settings} (h : wfS s) : (encS s).length = 12 + s.Data.length := by simp [encS, beB_len, h.len]; omega
/-- what the bytes say -/
def rawS (b : List Int) : S_Settings := ⟨beN (b.take 4), b.drop 12, (b.drop 4).take 8⟩
noncomputable def decS (b : List Int) : S_Settings × Int := if b.length < 12 then (emptyS, 4) else if validS (rawS b) then (rawS b, 0) else (emptyS, 5)
theorem beN4 {b : List Int} (h : okB b) : 0 ≤ beN (b.take 4) ∧ beN (b.take 4) < 4294967296 := by
  have hb := beN_bd (h.take 4)
  have hl : (b.take 4).length ≤ 4 := by rw [List.length_take]; omega
  have : (256 : Int) ^ (b.take 4).length ≤ 4294967296 := by
    generalize (b.take 4).length = m at hl
    rcases m with _ | _ | _ | _ | _ | m
    all_goals first | decide | omega
  omega
theorem prog_dec {b : List Int} (h : okB b) (hb : b.length ≤ 100000000) : F_management_DecodeSettings b = some (decS b) := by
  unfold F_management_DecodeSettings decS
  by_cases c1 : b.length < 12
  · rw [decT (show (b.length : Int) < 12 by omega), if_pos c1]; rfl
  rw [decF (show ¬ (b.length : Int) < 12 by omega), if_neg c1]
  simp only [cond_false]
  by_cases c2 : b.length > 76
  · rw [decT (show (b.length : Int) > 76 by omega)]
    have : validS (rawS b) = false := by
      cases hv : validS (rawS b) with
      | false => rfl
      | true =>
        have := (valid_iff _ hv).2.2
        simp only [rawS, List.length_drop] at this
        omega
    rw [this]; rfl
  rw [decF (show ¬ (b.length : Int) > 76 by omega)]
  simp only [cond_false]
  have a1 := uint_some h (by omega) 0 4 (by omega) (by omega) (by omega)
  rw [show ((4 : Nat) : Int) = 4 from rfl, show ((0 : Nat) : Int) = 0 from rfl, List.drop_zero] at a1
  rw [a1, Option.bind_some, subO_some (by omega) (by omega) (by omega), Option.bind_some]
  rw [copy_nil (by rw [List.length_drop, List.length_take]; omega), Option.bind_some, subO_some (by omega) (by omega) (by omega), Option.bind_some, prog_valid, Option.bind_some]
  have e4 := beN4 h
  have hraw : S_Settings.mk (IntKind.wrap .i64 (beN (b.take 4))) ((b.take (b.length : Int).toNat).drop (12 : Int).toNat) (cpA 8 [0, 0, 0, 0, 0, 0, 0, 0] (Cut.app .whole ((b.take (b.length : Int).toNat).drop (4 : Int).toNat))) = rawS b := by
    unfold rawS
    rw [wi (by omega) (by omega), Int.toNat_natCast, List.take_length]
    congr 1
    apply List.ext_getElem?
    intro i
    simp only [Cut.app]
    rcases Nat.lt_or_ge i 8 with hi | hi
    · unfold cpA
      rw [List.getElem?_map, List.getElem?_range hi, List.getElem?_take, if_pos hi]
      simp only [Option.map_some]
      rw [if_pos (by simp; omega), getD_get (by simp; omega), List.getElem?_eq_getElem (by simp; omega)]
      rfl
    · rw [List.getElem?_eq_none (by simp [cpA]; omega), List.getElem?_eq_none (by rw [List.length_take]; omega)]
  rw [hraw]
  cases validS (rawS b) <;> rfl
theorem ref_dec {b : List Int} (h : okB b) (hb : b.length ≤ 100000000) : F_ref39_DecodeSettings b = some (decS b) := by
  unfold F_ref39_DecodeSettings decS
  by_cases c1 : b.length < 12
  · rw [decT (show (b.length : Int) < 12 by omega), if_pos c1]; rfl
  rw [decF (show ¬ (b.length : Int) < 12 by omega), if_neg c1]
  simp only [cond_false]
  have a1 := get_some h (by omega) 0 4 (by omega) (by omega)
  rw [show ((4 : Nat) : Int) = 4 from rfl, show ((0 : Nat) : Int) = 0 from rfl, List.drop_zero] at a1
  rw [a1, Option.bind_some, subO_some (by omega) (by omega) (by omega), Option.bind_some]
  rw [copy_nil (by rw [List.length_drop, List.length_take]; omega), Option.bind_some]
  have e4 := beN4 h
  rw [wi (by omega) (by omega), Int.toNat_natCast, List.take_length]
  have hl8 : ((b.drop 4).take 8).length = 8 := by rw [List.length_take, List.length_drop]; omega
  have hl := loop_run (step := F_ref39_DecodeSettings_l1 b) (S := fun k => ((k : Int), (S_Settings.mk (beN (b.take 4)) (b.drop 12) (((b.drop 4).take 8).take k ++ List.replicate (8 - k) 0)))) 8 (r := rawS b) (fun k hk => by
    unfold F_ref39_DecodeSettings_l1
    dsimp only
    rw [decT (show (k : Int) < 8 by omega), wi (x := (4 : Int) + (k : Int)) (by omega) (by omega), show (4 : Int) + (k : Int) = ((4 + k : Nat) : Int) by omega, idx_lt (by omega), decT (show (0 : Int) ≤ (k : Int) ∧ (k : Int) < (8 : Int) by omega)]
    simp only [cond_true, Option.bind_some, Int.toNat_natCast]
    rw [wk k (by omega)]
    congr 4
    have hlk : (((b.drop 4).take 8).take k).length = k := by rw [List.length_take]; omega
    obtain ⟨m, hm⟩ : ∃ m, 8 - k = m + 1 := ⟨8 - k - 1, by omega⟩
    have := setA_mid (P := ((b.drop 4).take 8).take k) (v := b[4 + k]) (m := m) (n := 8) (by omega)
    rw [hlk] at this
    have hg : ((b.drop 4).take 8)[k]? = some b[4 + k] := by
      rw [List.getElem?_eq_getElem (by omega), List.getElem_take, List.getElem_drop]
    rw [hm, this, take_snoc hg, show 8 - (k + 1) = m by omega]) (by
    unfold F_ref39_DecodeSettings_l1
    dsimp only
    rw [decF (show ¬ ((8 : Nat) : Int) < 8 by omega)]
    simp only [cond_false]
    have h8 : ((b.drop 4).take 8).take 8 = (b.drop 4).take 8 := List.take_of_length_le (by omega)
    rw [h8, Nat.sub_self]
    simp [rawS])
  have e0 : loopO (F_ref39_DecodeSettings_l1 b) (0, (S_Settings.mk (beN (b.take 4)) (b.drop (12 : Int).toNat) [0, 0, 0, 0, 0, 0, 0, 0])) = some (rawS b) := hl
  rw [e0, Option.bind_some, ref_valid, Option.bind_some]
  cases validS (rawS b) <;> rfl
theorem raw_enc {s : S_Settings} (h : wfS s) (hv : validS s = true) : rawS (encS s) = s := by
  obtain ⟨v1, v2, v3⟩ := valid_iff s hv
  have ht := h.len
  unfold rawS encS
  have e1 : (beB (IntKind.wrap .u64 s.Version) 4 ++ s.Tag ++ s.Data).take 4 = beB (IntKind.wrap .u64 s.Version) 4 := by
    rw [List.append_assoc, List.take_left' (beB_len _ _)]
  have e2 : (beB (IntKind.wrap .u64 s.Version) 4 ++ s.Tag ++ s.Data).drop 4 = s.Tag ++ s.Data := by
    rw [List.append_assoc, List.drop_left' (beB_len _ _)]
  have e3 : (beB (IntKind.wrap .u64 s.Version) 4 ++ s.Tag ++ s.Data).drop 12 = s.Data := List.drop_left' (by simp [beB_len, ht])
  rw [e1, e2, e3, List.take_left' ht, beN_beB, wu (by omega) (by omega), Int.emod_eq_of_lt (by omega) (by rw [show (256 : Int) ^ 4 = 4294967296 from rfl]; omega)]
theorem decS_wf {b : List Int} (h : okB b) (hb : b.length ≤ 100000000) : wfS (decS b).1 := by
  unfold decS
  split
  · exact emptyS_wf
  · rename_i c1
    split
    · exact ⟨h.drop _, (h.drop _).take _, by simp [rawS]; omega, by simp [rawS]; omega⟩
    · exact emptyS_wf
theorem dec_enc {s : S_Settings} (h : wfS s) (hv : validS s = true) : decS (encS s) = (s, 0) := by
  unfold decS
  rw [encS_len h, if_neg (by omega), raw_enc h hv, hv]
  rfl
theorem encode_law {raw : S_Settings} (hraw : wfS raw) {b : List Int} (hb : okB b) (hbl : ¬ (b.length : Int) > 200) {k : List Int} (hk : k.length = 16) (ok : okB k) (t : List Int) (hl : ¬ (raw.Data.length : Int) > 200) : F_law39_SettingsEncode raw b k t = some true := by
  unfold F_law39_SettingsEncode
  rw [decF hl, decF hbl]
  simp only [cond_false]
  obtain ⟨t0, e0, k0⟩ := new_spec t
  rw [e0, Option.bind_some]
  obtain ⟨s, t1, e1, hs, k1⟩ := settings_spec k0 hk ok
  rw [e1, Option.bind_some]
  have hloop : loopO (F_law39_SettingsEncode_l1 raw (s, t1)) 0 = some (.inl ()) := by
    generalize hL : ([raw, s] : List S_Settings) = L
    have hw : ∀ x ∈ L, wfS x := by
      intro x hx
      rw [← hL] at hx
      simp only [List.mem_cons, List.not_mem_nil, or_false] at hx
      rcases hx with rfl | rfl
      · exact hraw
      · exact hs
    refine loop_run (step := F_law39_SettingsEncode_l1 raw (s, t1)) (S := fun j => ((j : Nat) : Int)) L.length (fun j hj => ?_) ?_
    · unfold F_law39_SettingsEncode_l1
      dsimp only
      have hx := hw _ (List.getElem_mem hj)
      rw [hL, decT (show (j : Int) < (L.length : Int) by omega), idx_lt hj]
      simp only [cond_true, Option.bind_some]
      rw [prog_enc hx, ref_enc hx, Option.bind_some, Option.bind_some, wk j (by rw [← hL] at hj; simp at hj; omega)]
      simp only [bne_self_eq_false, cond_false]
      have hsm := hx.small
      cases hv : validS L[j] with
      | false =>
        have hd0 := prog_dec okB_nil (by simp)
        simp only [Bool.false_eq_true, if_false]
        rw [equal_spec okB_nil okB_nil, hd0]
        rfl
      | true =>
        have hv3 := (valid_iff _ hv).2.2
        simp only [if_true]
        rw [equal_spec (encS_ok hx) (encS_ok hx), prog_dec (encS_ok hx) (by rw [encS_len hx]; omega), dec_enc hx hv]
        simp only [decide_true, Option.bind_some, cond_true, beq_self_eq_true, bne_self_eq_false, cond_false]
        rw [same_self hx]
        rfl
    · unfold F_law39_SettingsEncode_l1
      dsimp only
      rw [hL, decF (by omega)]
      rfl
  rw [hloop, Option.bind_some]
  simp only [Sum.elim_inl]
  obtain ⟨v2, t2, e2, x0, x1, k2⟩ := next_spec k1 3 (by omega) (by omega)
  rw [e2, Option.bind_some]
  obtain ⟨v3, t3, e3, y0, y1, k3⟩ := next_spec k2 2 (by omega) (by omega)
  simp only [Cut.app]
  rw [wu8 (by omega) (by omega), appO_some (by simp; omega) (by simp; omega), Option.bind_some, e3, Option.bind_some]
  dsimp only
  rw [wu8 (by omega) (by omega), appO_some (by simp; omega) (by simp; omega), Option.bind_some]
  have hloop2 : loopO (F_law39_SettingsEncode_l2 b ([0, 0, 0, v2] ++ b) ([64, 0, 0, v3] ++ b)) 0 = some (.inl ()) := by
    generalize hL : ([b, [0, 0, 0, v2] ++ b, [64, 0, 0, v3] ++ b] : List (List Int)) = L
    have hw : ∀ x ∈ L, okB x ∧ x.length ≤ 300 := by
      intro x hx
      rw [← hL] at hx
      simp only [List.mem_cons, List.not_mem_nil, or_false] at hx
      rcases hx with rfl | rfl | rfl
      · exact ⟨hb, by omega⟩
      · exact ⟨(show okB [0, 0, 0, v2] from fun z hz => by simp at hz; omega).append hb, by simp; omega⟩
      · exact ⟨(show okB [64, 0, 0, v3] from fun z hz => by simp at hz; omega).append hb, by simp; omega⟩
    refine loop_run (step := F_law39_SettingsEncode_l2 b ([0, 0, 0, v2] ++ b) ([64, 0, 0, v3] ++ b)) (S := fun j => ((j : Nat) : Int)) L.length (fun j hj => ?_) ?_
    · unfold F_law39_SettingsEncode_l2
      obtain ⟨hx, hx2⟩ := hw _ (List.getElem_mem hj)
      rw [hL, decT (show (j : Int) < (L.length : Int) by omega), idx_lt hj]
      simp only [cond_true, Option.bind_some]
      rw [prog_dec hx (by omega), ref_dec hx (by omega), Option.bind_some, Option.bind_some, same_self (decS_wf hx (by omega)), wk j (by rw [← hL] at hj; simp at hj; omega)]
      simp
    · unfold F_law39_SettingsEncode_l2
      rw [hL, decF (by omega)]
      rfl
  rw [hloop2, Option.bind_some]
  simp only [Sum.elim_inl]
  rw [known_true]
  rfl
end Go.Proofs.Ytcjoflgnifafiaa
