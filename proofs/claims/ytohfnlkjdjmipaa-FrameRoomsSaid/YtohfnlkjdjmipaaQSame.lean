/-
  The reference's Same: are two lists of bytes equal?
-/
import Derived.Test.YtohfnlkjdjmipaaCe
import Derived.Test.YtohfnlkjdjmipaaQ1
namespace Go.Proofs.Ytohfnlkjdjmipaa
open Go.RowKit

theorem same_refl (a : List Int) (ha : a.length ≤ 1000000000000) : F_ref01_Same a a = some true := by
  unfold F_ref01_Same
  rw [show ((a.length : Int) != (a.length : Int)) = false by simp]
  simp only [cond_false]
  have hl := loop_run (step := F_ref01_Same_l1 a a) (S := fun k => (k : Int)) a.length (r := Sum.inl ()) (fun k hk => by
    unfold F_ref01_Same_l1
    rw [decT (show (k : Int) < (a.length : Int) by omega), idx_lt hk, wk k (by omega)]
    simp) (by
    unfold F_ref01_Same_l1
    rw [decF (show ¬ (a.length : Int) < (a.length : Int) by omega)]
    rfl)
  simp only [Int.natCast_zero] at hl
  rw [hl]
  rfl
theorem same_spec (a b : List Int) (ha : a.length ≤ 1000000000000) : F_ref01_Same a b = some (decide (a = b)) := by
  by_cases he : a = b
  · subst he
    rw [same_refl a ha]; simp
  unfold F_ref01_Same
  by_cases hn : a.length = b.length
  · rw [show ((a.length : Int) != (b.length : Int)) = false by simp [hn]]
    simp only [cond_false]
    rcases loop_first (step := F_ref01_Same_l1 a b) (S := fun k => (k : Int)) a.length (p := fun k => a[k]? == b[k]?) (out := fun _ => Sum.inr false) (re := Sum.inl ()) (fun k hk hp => by
      unfold F_ref01_Same_l1
      rw [decT (show (k : Int) < (a.length : Int) by omega), idx_lt hk, idx_lt (by omega : k < b.length), wk k (by omega)]
      rw [List.getElem?_eq_getElem hk, List.getElem?_eq_getElem (by omega : k < b.length)] at hp
      have : a[k] = b[k] := by simpa using hp
      simp [this]) (fun k hk hp => by
      unfold F_ref01_Same_l1
      rw [decT (show (k : Int) < (a.length : Int) by omega), idx_lt hk, idx_lt (by omega : k < b.length)]
      rw [List.getElem?_eq_getElem hk, List.getElem?_eq_getElem (by omega : k < b.length)] at hp
      have : (a[k] != b[k]) = true := by simpa using hp
      simp only [Option.bind_some, cond_true, this]) (by
      unfold F_ref01_Same_l1
      rw [decF (show ¬ (a.length : Int) < (a.length : Int) by omega)]
      rfl) with ⟨k, hk, hp, _, hl⟩ | ⟨hall, hl⟩
    · simp only [Int.natCast_zero] at hl
      rw [hl]
      simp [he]
    · refine absurd (List.ext_getElem? fun k => ?_) he
      by_cases hk : k < a.length
      · simpa using hall k hk
      · rw [List.getElem?_eq_none (by omega), List.getElem?_eq_none (by omega)]
  · rw [show ((a.length : Int) != (b.length : Int)) = true by simp; omega]
    simp [he]
end Go.Proofs.Ytohfnlkjdjmipaa
