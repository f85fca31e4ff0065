/-
  slices.Equal of routes.
-/
import Derived.Test.YtonlajdaaljncaaPS1
namespace Go.Proofs.Ytonlajdaaljncaa
open Go.RowKit

theorem eqb_D {a b : S_Down} (ha : wfD a) (hb : wfD b) : S_Down.eqb a b = true ↔ a = b := by
  unfold S_Down.eqb
  rw [eqb_P ha.1 hb.1]
  obtain ⟨t, v, s, u⟩ := a
  obtain ⟨t', v', s', u'⟩ := b
  simp
theorem eqD_iff {l m : List S_Down} (hl : ∀ d ∈ l, wfD d) (hm : ∀ d ∈ m, wfD d) (hlen : l.length ≤ maxLen) : ∃ b, F_slices_Equal_api_Down_api_Down l m = some b ∧ (b = true ↔ l = m) := by
  unfold F_slices_Equal_api_Down_api_Down
  have hl' : l.length ≤ 9223372036854775807 := by simpa [maxLen] using hlen
  by_cases h : l.length = m.length
  · rw [show ((l.length : Int) != (m.length : Int)) = false by simp [h]]
    simp only [cond_false]
    have hst : ∀ k (hk : k < l.length), F_slices_Equal_api_Down_api_Down_l1 l m (k : Int) = if S_Down.eqb l[k] (m[k]'(by omega)) = true then some (Sum.inl ((k + 1 : Nat) : Int)) else some (Sum.inr (Sum.inr false)) := by
      intro k hk
      unfold F_slices_Equal_api_Down_api_Down_l1
      rw [decT (by omega), idx_lt hk, idx_lt (show k < m.length by omega), wk k (by omega)]
      simp only [cond_true, Option.bind_some]
      cases S_Down.eqb l[k] (m[k]'(by omega)) <;> rfl
    have e := loop_all (step := F_slices_Equal_api_Down_api_Down_l1 l m) (S := fun k => (k : Int)) l.length (fun k => match l[k]?, m[k]? with | some a, some b => S_Down.eqb a b | _, _ => true) (rt := Sum.inl ()) (rf := Sum.inr false) (by
        intro k hk hp
        simp only [List.getElem?_eq_getElem hk, List.getElem?_eq_getElem (show k < m.length by omega)] at hp
        rw [hst k hk, if_pos hp]) (by
        intro k hk hp
        simp only [List.getElem?_eq_getElem hk, List.getElem?_eq_getElem (show k < m.length by omega)] at hp
        rw [hst k hk, hp]
        rfl) (by
        unfold F_slices_Equal_api_Down_api_Down_l1
        rw [decF (by omega)]
        rfl)
    rw [show ((0 : Nat) : Int) = 0 from rfl] at e
    rw [e]
    simp only [Option.bind_some]
    split
    · rename_i hall
      refine ⟨true, rfl, ⟨fun _ => ?_, fun _ => rfl⟩⟩
      apply List.ext_getElem h
      intro i h1 h2
      have := hall i h1
      simp only [List.getElem?_eq_getElem h1, List.getElem?_eq_getElem h2] at this
      exact (eqb_D (hl _ (List.getElem_mem h1)) (hm _ (List.getElem_mem h2))).1 this
    · rename_i hnot
      refine ⟨false, rfl, ⟨fun h => Bool.noConfusion h, fun he => ?_⟩⟩
      subst he
      exfalso
      apply hnot
      intro k hk
      simp only [List.getElem?_eq_getElem hk]
      exact (eqb_D (hl _ (List.getElem_mem hk)) (hl _ (List.getElem_mem hk))).2 rfl
  · rw [show ((l.length : Int) != (m.length : Int)) = true by simp; omega]
    exact ⟨false, rfl, ⟨fun h => Bool.noConfusion h, fun he => absurd (by rw [he]) h⟩⟩
theorem eqD_self {l : List S_Down} (hl : ∀ d ∈ l, wfD d) (hlen : l.length ≤ 128) : F_slices_Equal_api_Down_api_Down l l = some true := by
  obtain ⟨b, e, hb⟩ := eqD_iff hl hl (by simp [maxLen]; omega)
  rw [e, hb.2 rfl]
end Go.Proofs.Ytonlajdaaljncaa
