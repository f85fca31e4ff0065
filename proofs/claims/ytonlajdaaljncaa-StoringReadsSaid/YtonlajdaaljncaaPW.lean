/-
  The makers of the storing laws: what they make is well formed.
-/
import Derived.Test.YtonlajdaaljncaaPS5
namespace Go.Proofs.Ytonlajdaaljncaa
open Go.RowKit

theorem base_spec {t : S_multihopmade_Tape} (h : TapeOk t) : ∃ v t', F_world_Base t = some (v, t') ∧ isT v = true ∧ TapeOk t' := by
  unfold F_world_Base
  obtain ⟨v1, t1, e1, _, _, k1⟩ := next_spec h 6 (by omega) (by omega)
  rw [e1]
  simp only [Option.bind_some]
  obtain ⟨v2, t2, e2, a2, b2, k2⟩ := next_spec k1 5 (by omega) (by omega)
  obtain ⟨v3, t3, e3, a3, b3, k3⟩ := next_spec k1 40 (by omega) (by omega)
  obtain ⟨v4, t4, e4, a4, b4, k4⟩ := next_spec k1 1000 (by omega) (by omega)
  rw [e2, e3, e4]
  simp only [Option.bind_some]
  cases (v1 == 0) with
  | true => exact ⟨v2, t2, rfl, isT_iff.2 (by omega), k2⟩
  | false =>
    cases (v1 == 1) with
    | true => exact ⟨_, t3, rfl, isT_iff.2 (by rw [wi (by omega) (by omega)]; omega), k3⟩
    | false => exact ⟨v4, t4, rfl, isT_iff.2 (by omega), k4⟩
theorem time_spec {t : S_multihopmade_Tape} (h : TapeOk t) {b : Int} (hb : isT b = true) : ∃ v t', F_world_Time t b = some (v, t') ∧ isT v = true ∧ TapeOk t' := by
  unfold F_world_Time
  obtain ⟨v1, t1, e1, a1, b1, k1⟩ := next_spec h 60 (by omega) (by omega)
  rw [e1]
  have hb' := isT_iff.1 hb
  simp only [Option.bind_some]
  rw [wi (x := b + v1) (by omega) (by omega), wi (x := b + v1 - 30) (by omega) (by omega)]
  refine ⟨_, t1, rfl, ?_, k1⟩
  rw [isT_iff]
  split <;> split at * <;> omega
theorem eui_spec {t : S_multihopmade_Tape} (h : TapeOk t) : ∃ v t', F_world_EUI t = some (v, t') ∧ 1 ≤ v ∧ v ≤ 5 ∧ TapeOk t' := by
  unfold F_world_EUI
  obtain ⟨v1, t1, e1, a1, b1, k1⟩ := next_spec h 5 (by omega) (by omega)
  rw [e1]
  simp only [Option.bind_some]
  rw [wi (by omega) (by omega), wu (by omega) (by omega)]
  exact ⟨_, t1, rfl, by omega, by omega, k1⟩
theorem ip_spec {t : S_multihopmade_Tape} (h : TapeOk t) : ∃ v t', F_world_IP t = some (v, t') ∧ v.length = 16 ∧ Bytes v ∧ TapeOk t' := by
  unfold F_world_IP F_world_IP_j1
  obtain ⟨v1, t1, e1, a1, b1, k1⟩ := next_spec h 2 (by omega) (by omega)
  obtain ⟨v2, t2, e2, a2, b2, k2⟩ := next_spec k1 2 (by omega) (by omega)
  obtain ⟨v3, t3, e3, a3, b3, k3⟩ := next_spec k2 6 (by omega) (by omega)
  obtain ⟨v4, t4, e4, k4⟩ := bool_spec k3 9 (by omega) (by omega)
  obtain ⟨v5, t5, e5, a5, b5, k5⟩ := next_spec k4 16 (by omega) (by omega)
  obtain ⟨v6, t6, e6, a6, b6, k6⟩ := next_spec k5 8 (by omega) (by omega)
  simp only [e1, Option.bind_some, e2, e3, e4, e5, e6]
  have w1 := wrap8_bd v1
  have w2 := wrap8_bd v2
  have w3 := wrap8_bd v3
  have hB : Bytes [32, 1, 13, 184, 0, IntKind.wrap .u8 v1, IntKind.wrap .u8 v2, 0, 0, 0, 0, 0, 0, 0, 0, IntKind.wrap .u8 v3] := by
    intro z hz
    simp only [List.mem_cons, List.not_mem_nil, or_false] at hz
    omega
  cases v4 with
  | false => exact ⟨_, t4, rfl, rfl, hB, k4⟩
  | true =>
    rw [decT (show (0 : Int) ≤ v5 ∧ v5 < 16 by omega), wu (x := v6) (by omega) (by omega), decT (show (0 : Int) ≤ v6 by omega)]
    refine ⟨_, t6, rfl, setA_len _ _ _ _, ?_, k6⟩
    rw [setA_set (n := 16) rfl]
    exact set_bytes hB _ (wrap8_bd _)
theorem mask_spec (a : List Int) (b : Int) : ∃ p, F_ref04_Mask a b = some p ∧ wfP p := by
  unfold F_ref04_Mask
  generalize hc : (if (128 : Int) < if b < 0 then 0 else b then 128 else if b < 0 then 0 else b) = c
  have hc0 : 0 ≤ c ∧ c ≤ 128 := by rw [← hc]; split <;> split at * <;> omega
  obtain ⟨r, e, hr⟩ := loop_inv (step := F_ref04_Mask_l1 b a) (fun s => 0 ≤ s.1 ∧ s.1 ≤ c ∧ wfP s.2) (fun p => wfP p) (fun s => (c - s.1).toNat) (by
    rintro ⟨i, p⟩ ⟨h0, h1, hp⟩
    dsimp only at h0 h1 hp
    unfold F_ref04_Mask_l1
    dsimp only
    rw [hc]
    by_cases hi : i < c
    · left
      obtain ⟨k, rfl⟩ : ∃ k : Nat, i = (k : Int) := ⟨i.toNat, by omega⟩
      rw [decT hi, quo8 k (by omega), sh7 k, bit_eq _ (by omega), wk k (by omega), decT (show (0 : Int) ≤ ((k / 8 : Nat) : Int) ∧ ((k / 8 : Nat) : Int) < 16 by omega), decT (show (0 : Int) ≤ 7 - ((k % 8 : Nat) : Int) by omega)]
      refine ⟨_, rfl, ⟨by dsimp only; omega, by dsimp only; omega, setA_len _ _ _ _, ?_⟩, by dsimp only; omega⟩
      dsimp only
      rw [setA_set hp.1]
      exact set_bytes hp.2 _ (wrap8_bd _)
    · right
      rw [decF hi]
      exact ⟨p, rfl, hp⟩) (0, S_Prefix.mk [0, 0, 0, 0, 0, 0, 0, 0, 0, 0, 0, 0, 0, 0, 0, 0] c) ⟨by dsimp only; omega, by dsimp only; omega, rfl, zero_bytes 16⟩
  rw [e]
  exact ⟨r, rfl, hr⟩
theorem idx4 {v : Int} (h0 : 0 ≤ v) (h1 : v < 4) : ∃ e, idx ([128, 128, 64, 0] : List Int) v = some e := ⟨_, idx_int h0 (by simpa using h1)⟩
theorem idx10 {v : Int} (h0 : 0 ≤ v) (h1 : v < 10) : ∃ e, idx ([0, 1, 16, 127, 126, 128, 200, 239, 240, 255] : List Int) v = some e ∧ 0 ≤ e ∧ e ≤ 255 := by
  have hlen : v < (([0, 1, 16, 127, 126, 128, 200, 239, 240, 255] : List Int).length : Int) := by simpa using h1
  refine ⟨_, idx_int h0 hlen, ?_⟩
  have hB : Bytes [0, 1, 16, 127, 126, 128, 200, 239, 240, 255] := by
    intro z hz
    simp only [List.mem_cons, List.not_mem_nil, or_false] at hz
    omega
  exact hB _ (List.getElem_mem _)
theorem regspec {t : S_multihopmade_Tape} (h : TapeOk t) : ∃ r t', F_world_Register t = some (r, t') ∧ wfR r ∧ 0 ≤ r.Lifetime ∧ r.Lifetime < 40 ∧ TapeOk t' := by
  unfold F_world_Register
  obtain ⟨v1, t1, e1, _, _, k1⟩ := ip_spec h
  obtain ⟨v2, t2, e2, a2, b2, k2⟩ := next_spec k1 4 (by omega) (by omega)
  obtain ⟨i2, f2⟩ := idx4 a2 b2
  obtain ⟨p, ep, hp⟩ := mask_spec v1 i2
  obtain ⟨v3, t3, e3, a3, b3, k3⟩ := next_spec k2 10 (by omega) (by omega)
  obtain ⟨i3, f3, g3, g4⟩ := idx10 a3 b3
  obtain ⟨v4, t4, e4, a4, b4, k4⟩ := next_spec k3 40 (by omega) (by omega)
  simp only [e1, Option.bind_some, e2, f2, ep, e3, f3, e4]
  exact ⟨_, t4, rfl, ⟨hp, g3, g4⟩, a4, b4, k4⟩
theorem downs_spec {t : S_multihopmade_Tape} (h : TapeOk t) {b : Int} (hb : isT b = true) : ∃ l t', F_world_Downs t b = some (l, t') ∧ GoodD l ∧ TapeOk t' := by
  unfold F_world_Downs
  obtain ⟨v1, t1, e1, a1, b1, k1⟩ := next_spec h 9 (by omega) (by omega)
  rw [e1]
  simp only [Option.bind_some]
  obtain ⟨r, e, hr1, hr2⟩ := loop_inv (step := F_world_Downs_l1 b) (fun s => GoodD s.1 ∧ s.2.1 < 9 ∧ TapeOk s.2.2) (fun r => GoodD r.1 ∧ TapeOk r.2) (fun s => s.2.1.toNat) (by
    rintro ⟨l, i, t⟩ ⟨hg, hi9, ht⟩
    dsimp only at hg hi9 ht
    unfold F_world_Downs_l1 F_world_Downs_j2
    dsimp only
    by_cases hi : i > 0
    · left
      obtain ⟨v2, t2, e2, c2, k2⟩ := time_spec ht hb
      obtain ⟨v3, t3, e3, _, _, k3⟩ := eui_spec k2
      obtain ⟨r, t4, e4, hr, _, _, k4⟩ := regspec k3
      obtain ⟨a, _, e5, ha⟩ := acc_both (now := v2) (via := v3) hg.w hr.1
      rw [decT hi, wi (by omega) (by omega)]
      simp only [cond_true, e2, Option.bind_some, e3, e4, e5]
      by_cases h0 : a.2.2 = 0
      · rw [show (a.2.2 == 0) = true by simpa using h0]
        exact ⟨_, rfl, ⟨acc_good hr ha h0, by dsimp only; omega, k4⟩, by dsimp only; omega⟩
      · rw [beqF h0]
        exact ⟨_, rfl, ⟨hg, by dsimp only; omega, k4⟩, by dsimp only; omega⟩
    · right
      rw [decF hi]
      exact ⟨_, rfl, hg, ht⟩) ([], v1, t1) ⟨goodNil, b1, k1⟩
  rw [e]
  exact ⟨_, _, rfl, hr1, hr2⟩
theorem wfA_bytes {n : Nat} {l : List Int} (h : l.length = n ∧ ∀ z ∈ l, (Lit.int .u8 z).wf = true) : Bytes l := by
  intro z hz
  have := h.2 z hz
  simpa [Lit.wf, IntKind.min, IntKind.max, IntKind.signed, IntKind.bits] using this
end Go.Proofs.Ytonlajdaaljncaa
