/-
  Settings: what the maker makes; the laws Sign, Take, Rise.
-/
import Derived.Test.YtcjoflgnifafiaaMS1
import Derived.Test.YtcjoflgnifafiaaQTBytes
import Derived.Test.YtcjoflgnifafiaaQTMod
namespace Go.Proofs.Ytcjoflgnifafiaa
open Go.RowKit

theorem emptyS_wf : wfS emptyS := ⟨okB_nil, fun z hz => by simp [emptyS] at hz; omega, rfl, by simp [emptyS]⟩
theorem signS_wf {k : List Int} {v : Int} {d : List Int} (od : okB d) (hd : d.length ≤ 100000000000) : wfS (signS k v d).1 := by
  unfold signS
  split
  · exact emptyS_wf
  · split
    · exact emptyS_wf
    · exact ⟨od, tagS_ok _ _ _, tagS_len _ _ _, hd⟩
theorem ixor8_bd (x y : Int) : 0 ≤ ixor .u8 x y ∧ ixor .u8 x y ≤ 255 := by unfold ixor; rw [wrap8]; omega
theorem setA_okB {n : Nat} {l : List Int} (h : okB l) (hl : l.length = n) (i : Nat) {v : Int} (hv : 0 ≤ v ∧ v ≤ 255) : okB (setA n l i v) := by rw [setA_set hl]; exact h.set _ hv
theorem settings_spec {t : S_multihopmade_Tape} (h : TapeOk t) {k : List Int} (hk : k.length = 16) (ok : okB k) : ∃ s t', F_world_Settings t k = some (s, t') ∧ wfS s ∧ TapeOk t' := by
  unfold F_world_Settings F_world_Settings_j1
  obtain ⟨v1, t1, e1, _, _, k1⟩ := next_spec h 4 (by omega) (by omega)
  rw [e1, Option.bind_some]
  obtain ⟨d, t2, e2, od, hd, k2⟩ := bytes_spec k1 8 (by omega)
  rw [show ((8 : Nat) : Int) = 8 from rfl] at e2
  dsimp only
  rw [e2, Option.bind_some]
  dsimp only
  rw [ref_sign hk ok _ od (by omega), Option.bind_some]
  have hw := signS_wf (k := k) (v := IntKind.wrap .i64 (1 + v1)) od (by omega)
  generalize signS k (IntKind.wrap .i64 (1 + v1)) d = s at *
  obtain ⟨v3, t3, e3, _, _, k3⟩ := next_spec k2 6 (by omega) (by omega)
  rw [e3, Option.bind_some]
  dsimp only
  by_cases c1 : v3 = 0
  · subst c1
    exact ⟨_, _, rfl, emptyS_wf, k3⟩
  rw [beqF c1]
  by_cases c2 : v3 = 1
  · subst c2
    obtain ⟨v4, t4, e4, b0, b1, k4⟩ := next_spec k3 8 (by omega) (by omega)
    obtain ⟨v5, t5, e5, b2, b3, k5⟩ := next_spec k4 8 (by omega) (by omega)
    simp only [beq_self_eq_true, cond_true, cond_false]
    rw [e4, Option.bind_some]
    dsimp only
    rw [decT (show (0 : Int) ≤ v4 ∧ v4 < (8 : Int) by omega), e5]
    simp only [cond_true, Option.bind_some]
    rw [wu (by omega) (by omega), decT (show (0 : Int) ≤ v5 by omega)]
    exact ⟨_, _, rfl, ⟨hw.data, setA_okB hw.tag hw.len _ (ixor8_bd _ _), setA_len _ _ _ _, hw.small⟩, k5⟩
  · rw [beqF c2]
    exact ⟨_, _, rfl, hw, k3⟩
theorem equal_spec {a b : List Int} (ha : okB a) (hb : okB b) : F_bytes_Equal a b = some (decide (a = b)) := by
  unfold F_bytes_Equal
  simp only [Cut.app]
  rw [u8L_beq ha hb]
theorem same_self {s : S_Settings} (h : wfS s) : F_world_SameSettings s s = some true := by
  unfold F_world_SameSettings
  rw [equal_spec h.data h.data, arrEq_eq h.len h.len]
  simp
theorem keyOk {z : Int} (h : 0 ≤ z ∧ z ≤ 255) : okB [z, 0, 0, 0, 0, 0, 0, 0, 0, 0, 0, 0, 0, 0, 0, 0] := fun y hy => by simp at hy; omega
theorem report4 : F_management_Report ([] : List S_Diagnostic) (S_Diagnostic.mk 4 5 ([] : List Int)) = some ([S_Diagnostic.mk 4 5 []], 0) := by
  unfold F_management_Report F_management_Report_j1 F_management_ValidReports F_management_union F_management_validNumber
  have e1 : loopO (F_management_ValidReports_l1 []) (0, 0) = some (.inl ()) := loop_done rfl
  have e2 : loopO F_management_union_l1 (([] : List S_Diagnostic), [S_Diagnostic.mk 4 5 []], ([] : List S_Diagnostic)) = some [S_Diagnostic.mk 4 5 []] := by
    rw [loop_next (s' := (([] : List S_Diagnostic), [], [S_Diagnostic.mk 4 5 []])) rfl]
    exact loop_done rfl
  simp only [List.length_nil, Int.natCast_zero, e1, e2]
  rfl
theorem sign_ok {k : List Int} {v : Int} {d : List Int} (h1 : 1 ≤ v) (h2 : v ≤ 1073741824) (h3 : d.length ≤ 64) : signS k v d = (⟨v, d, tagS k v d⟩, 0) := by
  unfold signS
  rw [if_neg (by omega), if_neg (by omega)]
theorem valid_of {s : S_Settings} (h1 : 1 ≤ s.Version) (h2 : s.Version ≤ 1073741824) (h3 : s.Data.length ≤ 64) : validS s = true := by
  have h := ref_valid s
  unfold F_ref39_Valid at h
  grind
theorem check_signed {k : List Int} {v : Int} {d : List Int} (h1 : 1 ≤ v) (h2 : v ≤ 1073741824) (h3 : d.length ≤ 64) : checkS k ⟨v, d, tagS k v d⟩ = true := by
  unfold checkS
  rw [valid_of h1 h2 h3, arrEq_eq (tagS_len _ _ _) (tagS_len _ _ _)]
  simp
  omega
theorem known_true : F_law39_known = some true := by
  unfold F_law39_known
  have hk : ([1, 0, 0, 0, 0, 0, 0, 0, 0, 0, 0, 0, 0, 0, 0, 0] : List Int).length = 16 := rfl
  have ok := keyOk (z := 1) (by omega)
  have o7 : okB [7] := okB_one (by omega)
  rw [prog_sign hk ok 3 o7 (by simp), sign_ok (by omega) (by omega) (by simp), Option.bind_some]
  generalize ht : tagS [1, 0, 0, 0, 0, 0, 0, 0, 0, 0, 0, 0, 0, 0, 0, 0] 3 [7] = t
  have hw : wfS ⟨3, [7], t⟩ := by rw [← ht]; exact ⟨o7, tagS_ok _ _ _, tagS_len _ _ _, by simp⟩
  have hc : checkS [1, 0, 0, 0, 0, 0, 0, 0, 0, 0, 0, 0, 0, 0, 0, 0] ⟨3, [7], t⟩ = true := by rw [← ht]; exact check_signed (by omega) (by omega) (by simp)
  have v1 : validS (S_Settings.mk 3 [7] t) = true := valid_of (by simp) (by simp) (by simp)
  have v0 : validS (S_Settings.mk 0 ([] : List Int) [0, 0, 0, 0, 0, 0, 0, 0]) = true := by
    have h := ref_valid (S_Settings.mk 0 ([] : List Int) [0, 0, 0, 0, 0, 0, 0, 0])
    have e : F_ref39_Valid (S_Settings.mk 0 ([] : List Int) [0, 0, 0, 0, 0, 0, 0, 0]) = some true := rfl
    rw [e] at h
    exact (Option.some.inj h).symm
  dsimp only
  rw [prog_take _ hk ok hw, Option.bind_some]
  have e1 : takeS (S_Settings.mk 0 ([] : List Int) [0, 0, 0, 0, 0, 0, 0, 0]) [1, 0, 0, 0, 0, 0, 0, 0, 0, 0, 0, 0, 0, 0, 0, 0] ⟨3, [7], t⟩ = (⟨3, [7], t⟩, 0) := by
    unfold takeS
    rw [v0, v1, hc]; simp
  rw [e1]
  dsimp only
  rw [prog_take _ hk ok hw, Option.bind_some]
  have e2 : takeS ⟨3, [7], t⟩ [1, 0, 0, 0, 0, 0, 0, 0, 0, 0, 0, 0, 0, 0, 0, 0] ⟨3, [7], t⟩ = (emptyS, 16) := by
    unfold takeS
    rw [v1]; simp
  rw [e2, report4, Option.bind_some, prog_check hk ok hw, hc]
  rfl
theorem takes_true (own : S_Settings) {k : List Int} (hk : k.length = 16) (ok : okB k) {s : S_Settings} (h : wfS s) : F_law39_takes own k s = some true := by
  unfold F_law39_takes
  rw [prog_take own hk ok h, ref_take own hk ok h, Option.bind_some, Option.bind_some]
  have hw : wfS (takeS own k s).1 := by
    unfold takeS
    split
    · exact emptyS_wf
    · split
      · exact emptyS_wf
      · split
        · exact h
        · exact emptyS_wf
  rw [same_self hw]
  simp
theorem sign_law {k : List Int} (hk : k.length = 16) (ok : okB k) (v : Int) {d : List Int} (od : okB d) {raw : S_Settings} (hraw : wfS raw) (t : List Int) : F_law39_SettingsSign k v d raw t = some true := by
  unfold F_law39_SettingsSign
  by_cases c1 : (d.length : Int) > 200
  · rw [decT c1, known_true]; rfl
  rw [decF c1]
  by_cases c2 : (raw.Data.length : Int) > 200
  · rw [decT c2, known_true]; rfl
  rw [decF c2]
  simp only [cond_false]
  obtain ⟨t0, e0, k0⟩ := new_spec t
  obtain ⟨m, em, m0, m1⟩ := mod_spec v 10 (by omega) (by omega)
  rw [e0, Option.bind_some, em, Option.bind_some]
  obtain ⟨v1, t1, e1, _, _, k1⟩ := next_spec k0 2 (by omega) (by omega)
  rw [e1, Option.bind_some]
  generalize hl : ([v, IntKind.wrap .i64 (1 + m), IntKind.wrap .i64 (1073741824 + v1), 0] : List Int) = L
  have hloop : loopO (F_law39_SettingsSign_l1 v m (v1, t1) k d) 0 = some (.inl ()) := by
    refine loop_run (step := F_law39_SettingsSign_l1 v m (v1, t1) k d) (S := fun j => ((j : Nat) : Int)) L.length (fun j hj => ?_) ?_
    · unfold F_law39_SettingsSign_l1
      dsimp only
      rw [hl, decT (show (j : Int) < (L.length : Int) by omega), idx_lt hj]
      simp only [cond_true, Option.bind_some]
      rw [prog_sign hk ok _ od (by omega), ref_sign hk ok _ od (by omega), Option.bind_some, Option.bind_some, same_self (signS_wf od (by omega)), Option.bind_some, wk j (by rw [← hl] at hj; simp at hj; omega)]
      simp only [bne_self_eq_false, cond_false, cond_true]
      by_cases c3 : L[j] < 1 ∨ L[j] > 1073741824
      · have : signS k L[j] d = (emptyS, 2) := by unfold signS; rw [if_pos c3]
        rw [this]; rfl
      · by_cases c4 : d.length > 64
        · have : signS k L[j] d = (emptyS, 3) := by unfold signS; rw [if_neg c3, if_pos c4]
          rw [this]; rfl
        · rw [sign_ok (by omega) (by omega) (by omega)]
          simp only [beq_self_eq_true, cond_true]
          rw [prog_check hk ok ⟨od, tagS_ok _ _ _, tagS_len _ _ _, by dsimp only; omega⟩, check_signed (by omega) (by omega) (by omega)]
          rfl
    · unfold F_law39_SettingsSign_l1
      dsimp only
      rw [hl, decF (by omega)]
      rfl
  rw [hloop, Option.bind_some]
  simp only [Sum.elim_inl]
  obtain ⟨s, t2, e2, hs, k2⟩ := settings_spec k1 hk ok
  rw [e2, Option.bind_some]
  have hloop2 : loopO (F_law39_SettingsSign_l2 raw (s, t2) k) 0 = some (.inl ()) := by
    generalize hl2 : ([raw, s, (S_Settings.mk 0 raw.Data raw.Tag), (S_Settings.mk 0 ([] : List Int) [0, 0, 0, 0, 0, 0, 0, 0])] : List S_Settings) = L2
    have hw : ∀ x ∈ L2, wfS x := by
      intro x hx
      rw [← hl2] at hx
      simp only [List.mem_cons, List.not_mem_nil, or_false] at hx
      rcases hx with rfl | rfl | rfl | rfl
      · exact hraw
      · exact hs
      · exact ⟨hraw.data, hraw.tag, hraw.len, hraw.small⟩
      · exact emptyS_wf
    refine loop_run (step := F_law39_SettingsSign_l2 raw (s, t2) k) (S := fun j => ((j : Nat) : Int)) L2.length (fun j hj => ?_) ?_
    · unfold F_law39_SettingsSign_l2
      dsimp only
      have hx := hw _ (List.getElem_mem hj)
      have hk9 : ([9, 0, 0, 0, 0, 0, 0, 0, 0, 0, 0, 0, 0, 0, 0, 0] : List Int).length = 16 := rfl
      have ok9 := keyOk (z := 9) (by omega)
      rw [hl2, decT (show (j : Int) < (L2.length : Int) by omega), idx_lt hj]
      simp only [cond_true, Option.bind_some]
      rw [prog_valid, ref_valid, prog_check hk ok hx, ref_check hk ok hx, prog_check hk9 ok9 hx, ref_check hk9 ok9 hx, wk j (by rw [← hl2] at hj; simp at hj; omega)]
      simp
    · unfold F_law39_SettingsSign_l2
      dsimp only
      rw [hl2, decF (by omega)]
      rfl
  rw [hloop2, Option.bind_some]
  simp only [Sum.elim_inl]
  rw [known_true]
  rfl
theorem take_law {own s : S_Settings} (h : wfS s) {k : List Int} (hk : k.length = 16) (ok : okB k) (t : List Int) : F_law39_SettingsTake own s k t = some true := by
  unfold F_law39_SettingsTake
  by_cases c1 : (own.Data.length : Int) > 200
  · rw [decT c1, known_true]; rfl
  rw [decF c1]
  by_cases c2 : (s.Data.length : Int) > 200
  · rw [decT c2, known_true]; rfl
  rw [decF c2]
  simp only [cond_false]
  obtain ⟨t0, e0, k0⟩ := new_spec t
  rw [e0, Option.bind_some]
  obtain ⟨r, hr, q⟩ := loop_inv (step := F_law39_SettingsTake_l1 k own s) (fun x => 0 ≤ x.1 ∧ x.1 ≤ 5 ∧ TapeOk x.2) (fun r => r = .inl ()) (fun x => (5 - x.1).toNat) (by
    rintro ⟨i, t1⟩ ⟨a0, a1, a2⟩
    dsimp only at a0 a1 a2
    unfold F_law39_SettingsTake_l1
    dsimp only
    by_cases hi : i < 5
    · left
      obtain ⟨x, t2, e2, hx, k2⟩ := settings_spec a2 hk ok
      obtain ⟨y, t3, e3, hy, k3⟩ := settings_spec k2 hk ok
      rw [decT hi, e2]
      simp only [cond_true, Option.bind_some]
      rw [e3, Option.bind_some]
      dsimp only
      rw [takes_true x hk ok hy, takes_true own hk ok hy, takes_true x hk ok h, wi (by omega) (by omega)]
      exact ⟨_, rfl, ⟨by dsimp only; omega, by dsimp only; omega, k3⟩, by dsimp only; omega⟩
    · right
      rw [decF hi]
      exact ⟨_, rfl, rfl⟩) (0, t0) ⟨by dsimp only; omega, by dsimp only; omega, k0⟩
  rw [hr, q, Option.bind_some]
  simp only [Sum.elim_inl]
  rw [takes_true own hk ok h, known_true]
  rfl
theorem check_valid {k : List Int} {s : S_Settings} (h : checkS k s = true) : validS s = true ∧ 1 ≤ s.Version := by
  unfold checkS at h
  simp only [Bool.and_eq_true, bne_iff_ne] at h
  have := valid_iff s h.1.1
  exact ⟨h.1.1, by omega⟩
theorem rise_law {k : List Int} (hk : k.length = 16) (ok : okB k) (t : List Int) : F_law39_SettingsRise k t = some true := by
  unfold F_law39_SettingsRise
  obtain ⟨t0, e0, k0⟩ := new_spec t
  rw [e0, Option.bind_some]
  have v0 : validS emptyS = true := by
    have h := ref_valid emptyS
    have e : F_ref39_Valid emptyS = some true := rfl
    rw [e] at h
    exact (Option.some.inj h).symm
  obtain ⟨r, hr, q⟩ := loop_inv (step := F_law39_SettingsRise_l1 k) (fun x => 0 ≤ x.2.1 ∧ x.2.1 ≤ 15 ∧ TapeOk x.2.2.1 ∧ x.2.2.2.Version = x.1 ∧ validS x.2.2.2 = true) (fun r => r = .inl ()) (fun x => (15 - x.2.1).toNat) (by
    rintro ⟨n, i, t1, own⟩ ⟨a0, a1, a2, a3, a4⟩
    dsimp only at a0 a1 a2 a3 a4
    subst a3
    unfold F_law39_SettingsRise_l1
    dsimp only
    by_cases hi : i < 15
    · left
      obtain ⟨x, t2, e2, hx, k2⟩ := settings_spec a2 hk ok
      rw [decT hi, e2]
      simp only [cond_true, Option.bind_some]
      rw [ref_check hk ok hx, Option.bind_some]
      unfold F_law39_SettingsRise_j2 F_law39_SettingsRise_j3
      dsimp only
      rw [prog_take own hk ok hx, Option.bind_some, wi (by omega) (by omega)]
      cases hc : checkS k x with
      | false =>
        have ht : (takeS own k x).2 ≠ 0 := by
          unfold takeS
          rw [hc]
          split
          · simp
          · split <;> simp
        simp only [cond_false, Option.bind_some]
        rw [beqF ht]
        simp only [cond_false, bne_self_eq_false]
        exact ⟨_, rfl, ⟨by dsimp only; omega, by dsimp only; omega, k2, rfl, a4⟩, by dsimp only; omega⟩
      | true =>
        obtain ⟨hv, h1⟩ := check_valid hc
        simp only [cond_true, Option.bind_some]
        by_cases hle : x.Version ≤ own.Version
        · have ht : takeS own k x = (emptyS, 16) := by
            unfold takeS
            rw [a4, hv, if_neg (by simp), if_pos hle]
          rw [ht, if_neg (by omega)]
          simp only [show ((16 : Int) == 0) = false from rfl, cond_false, bne_self_eq_false]
          exact ⟨_, rfl, ⟨by dsimp only; omega, by dsimp only; omega, k2, rfl, a4⟩, by dsimp only; omega⟩
        · have ht : takeS own k x = (x, 0) := by
            unfold takeS
            rw [a4, hv, if_neg (by simp), if_neg hle, hc]; rfl
          rw [ht, if_pos (by omega)]
          simp only [beq_self_eq_true, cond_true]
          rw [decF hle]
          simp only [cond_false, bne_self_eq_false]
          exact ⟨_, rfl, ⟨by dsimp only; omega, by dsimp only; omega, k2, rfl, hv⟩, by dsimp only; omega⟩
    · right
      rw [decF hi]
      exact ⟨_, rfl, rfl⟩) (0, 0, t0, S_Settings.mk 0 ([] : List Int) [0, 0, 0, 0, 0, 0, 0, 0]) ⟨by dsimp only; omega, by dsimp only; omega, k0, rfl, v0⟩
  rw [hr, q, Option.bind_some]
  simp only [Sum.elim_inl]
  rw [known_true]
  rfl
theorem wfS_of {s : S_Settings} (h1 : wfL (wfI .u8) s.Data) (h2 : wfA .u8 8 s.Tag) (hl : ¬ (s.Data.length : Int) > 200) : wfS s := ⟨okB_wf h1.2, okB_wf h2.2, h2.1, by omega⟩
end Go.Proofs.Ytcjoflgnifafiaa
