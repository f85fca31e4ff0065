/-
  The tape's Fill and Word.
-/
import Derived.Test.YtohfnlkjdjmipaaQT
namespace Go.Proofs.Ytohfnlkjdjmipaa
open Go.RowKit

theorem fill_spec {t : S_multihopmade_Tape} (h : TapeOk t) (n : Nat) (hn : n ≤ 1000000) : ∃ l t', F_made_Tape_Fill t n = some (l, t') ∧ okB l ∧ l.length = n ∧ TapeOk t' := by
  unfold F_made_Tape_Fill
  obtain ⟨v1, t1, e1, _, _, k1⟩ := next_spec h 256 (by omega) (by omega)
  obtain ⟨v2, t2, e2, _, _, k2⟩ := next_spec k1 256 (by omega) (by omega)
  obtain ⟨v3, t3, e3, _, _, k3⟩ := next_spec k2 256 (by omega) (by omega)
  have em : mkO 1 (n : Int) (n : Int) = some n := by
    unfold mkO
    rw [if_pos ⟨by omega, by omega, by omega, by omega⟩, Int.toNat_natCast]
  simp only [e1, e2, e3, em, Option.bind_some]
  obtain ⟨r, hr, q⟩ := loop_inv (step := F_made_Tape_Fill_l1 n (v1, t1) (v2, t2) (v3, t3)) (fun s => 0 ≤ s.1 ∧ s.1 ≤ n ∧ okB s.2 ∧ s.2.length = n) (fun r => okB r ∧ r.length = n) (fun s => ((n : Int) - s.1).toNat) (by
    rintro ⟨i, l⟩ ⟨a0, a1, a3, a4⟩
    dsimp only at a0 a1 a3 a4
    unfold F_made_Tape_Fill_l1
    dsimp only
    by_cases hi : i < (n : Int)
    · left
      have m0 := Int.tmod_nonneg 5 a0
      have m1 := Int.tmod_lt_of_pos i (show (0 : Int) < 5 by omega)
      rw [decT hi, decT (show (0 : Int) ≤ Int.tmod i 5 ∧ Int.tmod i 5 < 5 from ⟨m0, m1⟩)]
      simp only [cond_true, Cut.app, Nat.zero_add]
      rw [idx_int a0 (by omega), Option.bind_some, List.getElem?_eq_getElem (by omega), Option.bind_some, wi (by omega) (by omega)]
      refine ⟨_, rfl, ⟨by dsimp only; omega, by dsimp only; omega, a3.set _ (wrap8_bd _), by simp only [List.length_set]; exact a4⟩, by dsimp only; omega⟩
    · right
      rw [decF hi]
      exact ⟨_, rfl, a3, a4⟩) (0, List.replicate n 0) ⟨by dsimp only; omega, by dsimp only; omega, fun z hz => by rw [(List.mem_replicate.1 hz).2]; omega, by simp⟩
  rw [hr, Option.bind_some]
  exact ⟨_, _, rfl, q.1, q.2, k3⟩
theorem word_spec {t : S_multihopmade_Tape} (h : TapeOk t) : ∃ v t', F_made_Tape_Word t = some (v, t') ∧ TapeOk t' := by
  unfold F_made_Tape_Word
  obtain ⟨v1, t1, e1, _, _, k1⟩ := next_spec h 65536 (by omega) (by omega)
  obtain ⟨v2, t2, e2, _, _, k2⟩ := next_spec k1 5 (by omega) (by omega)
  simp only [e1, e2, Option.bind_some]
  cases v2 == 0
  · cases v2 == 1
    · cases v2 == 2
      · cases v2 == 3
        · exact ⟨_, _, rfl, k2⟩
        · exact ⟨_, _, rfl, k2⟩
      · exact ⟨_, _, rfl, k2⟩
    · exact ⟨_, _, rfl, k2⟩
  · exact ⟨_, _, rfl, k2⟩
end Go.Proofs.Ytohfnlkjdjmipaa
