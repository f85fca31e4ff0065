/-
  The tape's bytes.
-/
import Derived.Test.YtohfnlkjdjmipaaQT
namespace Go.Proofs.Ytohfnlkjdjmipaa
open Go.RowKit

theorem bytes_spec {t : S_multihopmade_Tape} (h : TapeOk t) (n : Nat) (hn : n ≤ 1000000) : ∃ l t', F_made_Tape_Bytes t n = some (l, t') ∧ okB l ∧ l.length ≤ n ∧ TapeOk t' := by
  unfold F_made_Tape_Bytes
  rw [show IntKind.wrap .i64 ((n : Int) + 1) = ((n + 1 : Nat) : Int) by rw [wi (by omega) (by omega)]; rfl]
  obtain ⟨v, t1, e1, h0, h1, k1⟩ := next_spec h ((n + 1 : Nat) : Int) (by omega) (by omega)
  rw [e1, Option.bind_some]
  have e2 : mkO 1 v v = some v.toNat := by
    unfold mkO
    rw [if_pos ⟨by omega, by omega, by omega, by omega⟩]
  dsimp only
  rw [e2, Option.bind_some]
  obtain ⟨r, hr, q⟩ := loop_inv (step := F_made_Tape_Bytes_l1) (fun s => 0 ≤ s.1 ∧ s.1 ≤ v ∧ TapeOk s.2.1 ∧ okB s.2.2 ∧ s.2.2.length = v.toNat) (fun r => TapeOk r.1 ∧ okB r.2 ∧ r.2.length = v.toNat) (fun s => (v - s.1).toNat) (by
    rintro ⟨i, t2, l⟩ ⟨a0, a1, a2, a3, a4⟩
    dsimp only at a0 a1 a2 a3 a4
    unfold F_made_Tape_Bytes_l1
    dsimp only
    by_cases hi : i < (l.length : Int)
    · left
      obtain ⟨w, t3, e3, b0, b1, k3⟩ := next_spec a2 256 (by omega) (by omega)
      rw [decT hi, e3]
      simp only [cond_true, Option.bind_some, Cut.app, Nat.zero_add]
      rw [idx_int a0 hi, Option.bind_some, List.getElem?_eq_getElem (by omega), Option.bind_some, wi (by omega) (by omega), wu8 (by omega) (by omega)]
      refine ⟨_, rfl, ⟨by dsimp only; omega, by dsimp only; omega, k3, a3.set _ (by omega), by simp only [List.length_set]; exact a4⟩, by dsimp only; omega⟩
    · right
      rw [decF hi]
      exact ⟨_, rfl, a2, a3, a4⟩) (0, t1, List.replicate v.toNat 0) ⟨by dsimp only; omega, h0, k1, fun z hz => by rw [(List.mem_replicate.1 hz).2]; omega, by simp⟩
  rw [hr, Option.bind_some]
  exact ⟨_, _, rfl, q.2.1, by rw [q.2.2]; omega, q.1⟩
end Go.Proofs.Ytohfnlkjdjmipaa
