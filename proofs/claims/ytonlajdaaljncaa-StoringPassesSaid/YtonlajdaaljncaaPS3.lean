/-
  storing.Accept.
-/
import Derived.Test.YtonlajdaaljncaaPS2
namespace Go.Proofs.Ytonlajdaaljncaa
open Go.RowKit

theorem st_acceptT {A B : List S_Down} {x : S_Down} {now via : Int} {r : S_Register} (hv : ValidD (A ++ x :: B)) (hw : ∀ d ∈ A ++ x :: B, wfD d) (hr : wfP r.Target) (hvr : vrB r = true) (hvia : via ≠ 0) (hnow : isT now = true) (hA : ∀ a ∈ A, cmpP a.Target r.Target < 0) (hx : x.Target = r.Target) :
    F_storing_Accept (A ++ x :: B) now via r = some (accT A x B now via r) := by
  unfold F_storing_Accept
  have hlen := hv.len
  have hlife : isT r.Lifetime = true := by unfold vrB at hvr; simp only [Bool.and_eq_true] at hvr; exact hvr.2
  have hn : A.length < (A ++ x :: B).length := by simp
  have hget : (A ++ x :: B)[A.length] = x := by simp
  have hidx : idx (A ++ x :: B) ((A.length : Nat) : Int) = some x := by rw [idx_lt hn, hget]
  have hget? : (A ++ x :: B)[A.length]? = some x := by rw [List.getElem?_eq_getElem hn, hget]
  have hfind : F_storing_find (A ++ x :: B) r.Target = some ((A.length : Int), true) := find_eq hw hr hlen A.length (by omega) (fun k hk => by
      rw [List.getElem_append_left hk]
      exact hA _ (List.getElem_mem _)) true (.inr ⟨hn, by rw [hget, hx, cmpP_zero.2 rfl]; omega, by rw [hget, hx, cmpP_zero.2 rfl]; rfl⟩)
  rw [st_valid hw, validB_iff.2 hv, st_validReg hr, hvr, st_isTime, hnow, hfind]
  simp only [Option.bind_some, cond_true, beqF hvia, cond_false, hidx]
  have happ : appO 48 ([] : List S_Down) (Cut.app .whole (A ++ x :: B)) = some (A ++ x :: B) := by
    rw [appO_some (by simp only [Cut.app, List.length_nil]; omega) (by simp only [Cut.app, List.length_nil]; omega)]
    rfl
  have hj : ∀ cur : Bool, F_storing_Accept_j1 r (A ++ x :: B) ((A.length : Int), true) via now cur = some (bif r.Lifetime == 0 then (bif cur then (A ++ B, true, 0) else (A ++ x :: B, false, 0)) else bif cur && (x.Via == via) && (x.Sequence == r.Sequence) && decide (x.Until ≥ upto now r.Lifetime) then (A ++ x :: B, false, 0) else (A ++ newD now via r :: B, true, 0)) := by
    intro cur
    unfold F_storing_Accept_j1
    rw [upto_wrap hnow hlife, happ]
    simp only [Option.bind_some, hidx, Nat.zero_add, hget?, Cut.app, Int.toNat_natCast]
    cases h0 : (r.Lifetime == 0) with
    | true =>
      have hne : (r.Lifetime != 0) = false := by simp [bne, h0]
      rw [hne]
      simp only [cond_false, cond_true]
      cases cur with
      | false => rfl
      | true =>
        rw [decT (by omega), wi (x := (A.length : Int) + 1) (by omega) (by omega), show ((A.length : Int) + 1) = ((A.length + 1 : Nat) : Int) from rfl, Int.toNat_natCast]
        have hc := cut_rest A x B
        simp only [Cut.app] at hc
        simp only [hc]
        rw [decT (by simp only [List.length_append, List.length_cons]; omega), decT (by simp only [List.length_append, List.length_cons]; omega), cut_del]
        rfl
    | false =>
      have hne : (r.Lifetime != 0) = true := by simp [bne, h0]
      rw [hne]
      simp only [cond_false, cond_true]
      have hs := set_mid A x (newD now via r) B
      rw [Nat.zero_add] at hs
      have hs' : (A ++ x :: B).set A.length (S_Down.mk r.Target via r.Sequence (upto now r.Lifetime)) = A ++ newD now via r :: B := hs
      rw [hs']
      cases cur with
      | false => rfl
      | true =>
        simp only [cond_true, Bool.true_and]
        cases (x.Via == via) with
        | false => rfl
        | true =>
          cases (x.Sequence == r.Sequence) with
          | false => rfl
          | true =>
            cases decide (x.Until ≥ upto now r.Lifetime) <;> rfl
  rw [hj, hj, reg_newer]
  unfold accT stale
  simp only [Option.bind_some]
  cases hc : decide (x.Until > now) with
  | false => simp only [cond_false, Bool.false_and]
  | true =>
    simp only [cond_true, Bool.true_and]
    cases newB x.Sequence r.Sequence with
    | true => rfl
    | false =>
      cases (x.Sequence == r.Sequence) with
      | false => simp only [Bool.false_or, Bool.false_and, cond_false]
      | true =>
        cases (x.Via != via) <;> simp only [Bool.false_or, Bool.and_false, Bool.and_true, cond_false, cond_true]
theorem st_acceptN {A B : List S_Down} {now via : Int} {r : S_Register} (hv : ValidD (A ++ B)) (hw : ∀ d ∈ A ++ B, wfD d) (hr : wfP r.Target) (hvr : vrB r = true) (hvia : via ≠ 0) (hnow : isT now = true) (hA : ∀ a ∈ A, cmpP a.Target r.Target < 0) (hB : ∀ b ∈ B, cmpP b.Target r.Target > 0) :
    F_storing_Accept (A ++ B) now via r = some (accN A B now via r) := by
  unfold F_storing_Accept
  have hlen := hv.len
  have hlife : isT r.Lifetime = true := by unfold vrB at hvr; simp only [Bool.and_eq_true] at hvr; exact hvr.2
  have hfind : F_storing_find (A ++ B) r.Target = some ((A.length : Int), false) := find_eq hw hr hlen A.length (by simp) (fun k hk => by
      rw [List.getElem_append_left hk]
      exact hA _ (List.getElem_mem _)) false (by
      cases B with
      | nil => exact .inl ⟨by simp, rfl⟩
      | cons y B =>
        have hy := hB y (by simp)
        refine .inr ⟨by simp, ?_, ?_⟩
        · simp only [List.getElem_append_right (Nat.le_refl _), Nat.sub_self, List.getElem_cons_zero]; omega
        · simp only [List.getElem_append_right (Nat.le_refl _), Nat.sub_self, List.getElem_cons_zero]
          exact (beqF (by omega)).symm)
  rw [st_valid hw, validB_iff.2 hv, st_validReg hr, hvr, st_isTime, hnow, hfind]
  simp only [Option.bind_some, cond_true, beqF hvia, cond_false]
  have happ : appO 48 ([] : List S_Down) (Cut.app .whole (A ++ B)) = some (A ++ B) := by
    rw [appO_some (by simp only [Cut.app, List.length_nil]; omega) (by simp only [Cut.app, List.length_nil]; omega)]
    rfl
  rw [upto_wrap hnow hlife, happ]
  simp only [Option.bind_some]
  unfold accN
  cases h0 : (r.Lifetime == 0) with
  | true =>
    have hne : (r.Lifetime != 0) = false := by simp [bne, h0]
    rw [hne]
    rfl
  | false =>
    have hne : (r.Lifetime != 0) = true := by simp [bne, h0]
    rw [hne]
    simp only [cond_true, cond_false]
    by_cases hf : (A ++ B).length ≥ 128
    · rw [decT (show ((A ++ B).length : Int) ≥ 128 by omega), decT hf]
      rfl
    · rw [decF (show ¬ ((A ++ B).length : Int) ≥ 128 by omega), decF hf]
      simp only [cond_false]
      have happ2 : appO 48 (List.take (A ++ B).length (A ++ B)) (Cut.app .whole ([(S_Down.mk (S_Prefix.mk [0, 0, 0, 0, 0, 0, 0, 0, 0, 0, 0, 0, 0, 0, 0, 0] 0) 0 0 0)] : List S_Down)) = some (A ++ B ++ [(S_Down.mk (S_Prefix.mk [0, 0, 0, 0, 0, 0, 0, 0, 0, 0, 0, 0, 0, 0, 0, 0] 0) 0 0 0)]) := by
        rw [List.take_of_length_le (Nat.le_refl _), appO_some (by simp only [Cut.app, List.length_cons, List.length_nil]; omega) (by simp only [Cut.app, List.length_cons, List.length_nil]; omega)]
        rfl
      rw [happ2]
      simp only [Option.bind_some]
      generalize (S_Down.mk (S_Prefix.mk [0, 0, 0, 0, 0, 0, 0, 0, 0, 0, 0, 0, 0, 0, 0, 0] 0) 0 0 0) = z
      have hL : (A ++ B ++ [z]).length = A.length + B.length + 1 := by simp; omega
      rw [wi (x := (A.length : Int) + 1) (by simp at hlen; omega) (by simp at hlen; omega), show ((A.length : Int) + 1) = ((A.length + 1 : Nat) : Int) from rfl]
      simp only [Int.toNat_natCast]
      rw [decT (by rw [hL]; omega), decT (by rw [hL]; omega)]
      obtain ⟨e, he⟩ := ins_get A B z
      have hi : idx (Cut.app .whole (cpL (A ++ B ++ [z]) (A.length + 1) (Cut.app (.part (A.length + 1) ((A ++ B ++ [z]).length - (A.length + 1))) (A ++ B ++ [z])).length (Cut.app (.part A.length ((A ++ B ++ [z]).length - A.length)) (A ++ B ++ [z])))) ((A.length : Nat) : Int) = some e := by
        rw [idx_nat]
        exact he
      have hi' : (cpL (A ++ B ++ [z]) (A.length + 1) (Cut.app (.part (A.length + 1) ((A ++ B ++ [z]).length - (A.length + 1))) (A ++ B ++ [z])).length (Cut.app (.part A.length ((A ++ B ++ [z]).length - A.length)) (A ++ B ++ [z])))[0 + A.length]? = some e := by
        rw [Nat.zero_add]
        exact he
      rw [hi, hi', ins_mid]
      rfl
end Go.Proofs.Ytonlajdaaljncaa
