/-
  StoringNewest: over any registrations the sequence of a target that is reached never becomes older, and the route leads to the child that registered it last. Proved for all tapes.
-/
import Derived.Test.YtonlajdaaljncaaPW
import Derived.Test.YtonlajdaaljncaaLwStoringNewest
namespace Go.Proofs.Ytonlajdaaljncaa
open Go.RowKit

theorem upto_gt {now life : Int} (h0 : 0 ≤ now) (h1 : now ≤ 1000) (h2 : 0 < life) : upto now life > now := by
  unfold upto
  split <;> omega
theorem newest_round {l : List S_Down} {now via : Int} {r : S_Register} (hg : GoodD l) (hlen : l.length < 128) (h0 : 0 ≤ now) (h1 : now ≤ 1000) (hvia : via ≠ 0) (hr : wfR r) (hvr : vrB r = true) (hl0 : 0 ≤ r.Lifetime) :
    ∃ a, F_storing_Accept l now via r = some a ∧ ((a.2.2 = 16 ∧ (findD l now r.Target).2 = true) ∨
      (a.2.2 = 0 ∧ GoodD a.1 ∧ a.1.length ≤ l.length + 1 ∧ (findD a.1 now r.Target).2 = decide (r.Lifetime > 0) ∧
        ((findD a.1 now r.Target).2 = true → (findD a.1 now r.Target).1.Via = via ∧ (findD a.1 now r.Target).1.Sequence = r.Sequence ∧ ((findD l now r.Target).2 = true → newB (findD l now r.Target).1.Sequence (findD a.1 now r.Target).1.Sequence = false)))) := by
  have hnow : isT now = true := isT_iff.2 (by omega)
  rcases part_spec hg.v r.Target with ⟨A, x, B, rfl, hA, hx, hB⟩ | ⟨A, B, rfl, hA, hB⟩
  · refine ⟨_, st_acceptT hg.v hg.w hr.1 hvr hvia hnow hA hx, ?_⟩
    have hgood := acc_good hr (.there A x B rfl hA hx hB hg hvr hvia hnow)
    have hnw : (newD now via r).Target = r.Target := rfl
    rw [findT hA hx hB]
    unfold accT at hgood ⊢
    by_cases hc : x.Until > now
    · rw [if_pos hc]
      rw [decT hc] at hgood ⊢
      simp only [Bool.true_and] at hgood ⊢
      cases hs : stale x via r with
      | true => exact .inl ⟨by first | rfl | trivial, by first | rfl | trivial⟩
      | false =>
        rw [hs] at hgood
        simp only [cond_false, cond_true] at hgood ⊢
        have hnew : newB x.Sequence r.Sequence = false := by
          unfold stale at hs
          simp only [Bool.or_eq_false_iff] at hs
          exact hs.1
        by_cases hl : r.Lifetime = 0
        · rw [show (r.Lifetime == 0) = true by simpa using hl] at hgood ⊢
          simp only [cond_true] at hgood ⊢
          rw [findN hA hB]
          exact .inr ⟨by first | rfl | trivial, hgood (by first | rfl | trivial), by simp; omega, (decF (by omega)).symm, fun h => by cases h⟩
        · rw [beqF hl] at hgood ⊢
          simp only [cond_false] at hgood ⊢
          cases hsame : ((x.Via == via) && (x.Sequence == r.Sequence) && decide (x.Until ≥ upto now r.Lifetime)) with
          | true =>
            simp only [Bool.and_eq_true, beq_iff_eq] at hsame
            simp only [cond_true]
            rw [findT hA hx hB, if_pos hc]
            exact .inr ⟨by first | rfl | trivial, hg, by omega, (decT (by omega)).symm, fun _ => ⟨hsame.1.1, hsame.1.2, fun _ => by dsimp only; rw [show x.Sequence = r.Sequence from hsame.1.2]; rw [← hnew]; exact congrArg (fun z => newB z r.Sequence) hsame.1.2.symm⟩⟩
          | false =>
            rw [hsame] at hgood
            simp only [cond_false] at hgood ⊢
            rw [findT hA hnw hB, if_pos (show (newD now via r).Until > now from upto_gt h0 h1 (by omega))]
            exact .inr ⟨by first | rfl | trivial, hgood (by first | rfl | trivial), by simp, (decT (by omega)).symm, fun _ => ⟨by first | rfl | trivial, by first | rfl | trivial, fun _ => hnew⟩⟩
    · rw [if_neg hc]
      rw [decF hc] at hgood ⊢
      simp only [Bool.false_and, cond_false] at hgood ⊢
      by_cases hl : r.Lifetime = 0
      · rw [show (r.Lifetime == 0) = true by simpa using hl] at hgood ⊢
        simp only [cond_true] at hgood ⊢
        rw [findT hA hx hB, if_neg hc]
        exact .inr ⟨by first | rfl | trivial, hg, by omega, (decF (by omega)).symm, fun h => by cases h⟩
      · rw [beqF hl] at hgood ⊢
        simp only [cond_false] at hgood ⊢
        rw [findT hA hnw hB, if_pos (show (newD now via r).Until > now from upto_gt h0 h1 (by omega))]
        exact .inr ⟨by first | rfl | trivial, hgood (by first | rfl | trivial), by simp, (decT (by omega)).symm, fun _ => ⟨by first | rfl | trivial, by first | rfl | trivial, fun h => by cases h⟩⟩
  · refine ⟨_, st_acceptN hg.v hg.w hr.1 hvr hvia hnow hA hB, .inr ?_⟩
    have hgood := acc_good hr (.new A B rfl hA hB hg hvr hvia hnow)
    have hnw : (newD now via r).Target = r.Target := rfl
    unfold accN at hgood ⊢
    rw [decF (show ¬ (A ++ B).length ≥ 128 by omega)] at hgood ⊢
    by_cases hl : r.Lifetime = 0
    · rw [show (r.Lifetime == 0) = true by simpa using hl] at hgood ⊢
      simp only [cond_true] at hgood ⊢
      rw [findN hA hB]
      exact ⟨by first | rfl | trivial, hg, by omega, (decF (by omega)).symm, fun h => by cases h⟩
    · rw [beqF hl] at hgood ⊢
      simp only [cond_false] at hgood ⊢
      rw [findT hA hnw hB, findN hA hB, if_pos (show (newD now via r).Until > now from upto_gt h0 h1 (by omega))]
      exact ⟨by first | rfl | trivial, hgood (by first | rfl | trivial), by simp; omega, (decT (by omega)).symm, fun _ => ⟨by first | rfl | trivial, by first | rfl | trivial, fun h => by cases h⟩⟩
theorem newest_true (l : List Int) : F_law33_StoringNewest l = some true := by
  unfold F_law33_StoringNewest
  obtain ⟨t1, e1, k1⟩ := new_spec l
  rw [e1]
  simp only [Option.bind_some]
  obtain ⟨r, e, hr⟩ := loop_inv (step := F_law33_StoringNewest_l1) (fun s => GoodD s.1 ∧ 0 ≤ s.2.1 ∧ s.2.1 ≤ 4 * s.2.2.1 ∧ 0 ≤ s.2.2.1 ∧ s.2.2.1 ≤ 25 ∧ (s.1.length : Int) ≤ s.2.2.1 ∧ TapeOk s.2.2.2) (fun r => r = Sum.inl ()) (fun s => (25 - s.2.2.1).toNat) (by
    rintro ⟨m, now, i, t⟩ ⟨hg, n0, n1, i0, i1, hl, ht⟩
    dsimp only at hg n0 n1 i0 i1 hl ht
    unfold F_law33_StoringNewest_l1
    dsimp only
    by_cases hi : i < 25
    · left
      obtain ⟨r6, t6, e6, hr6, l6, _, k6⟩ := regspec ht
      obtain ⟨v7, t7, e7, a7, b7, k7⟩ := eui_spec k6
      obtain ⟨v8, t8, e8, _, _, k8⟩ := next_spec k7 3 (by omega) (by omega)
      obtain ⟨v9, t9, e9, a9, b9, k9⟩ := next_spec k8 5 (by omega) (by omega)
      have hvr : vrB (S_Register.mk (tgt v8) r6.Sequence r6.Lifetime) = true := by
        unfold vrB
        dsimp only
        rw [tgt_vp, Bool.true_and, isT_iff]
        omega
      obtain ⟨a, ea, ha⟩ := newest_round (via := v7) (now := now) (r := S_Register.mk (tgt v8) r6.Sequence r6.Lifetime) hg (by omega) n0 (by omega) (by omega) ⟨tgt_wf v8, hr6.2⟩ hvr l6
      have hf := rf_find (now := now) hg.w (tgt_wf v8) (by simp [maxLen]; omega)
      rw [decT hi]
      simp only [cond_true, e6, Option.bind_some, e7, e8, target_eq, hf, ea]
      have hnow : IntKind.wrap .i64 (now + v9) = now + v9 := wi (by omega) (by omega)
      have hii : IntKind.wrap .i64 (i + 1) = i + 1 := wi (by omega) (by omega)
      rcases ha with ⟨h16, hw⟩ | ⟨hz, hgood, hlen, hhas, hall⟩
      · dsimp only at hw
        rw [h16, hw]
        unfold F_law33_StoringNewest_j2
        simp only [e9, Option.bind_some, hnow, hii]
        exact ⟨_, rfl, ⟨hg, by dsimp only; omega, by dsimp only; omega, by dsimp only; omega, by dsimp only; omega, by dsimp only; omega, k9⟩, by dsimp only; omega⟩
      · have hf2 := rf_find (now := now) hgood.w (tgt_wf v8) (by simp [maxLen]; omega)
        dsimp only at hhas hall hlen
        have hfin : ∃ s', F_law33_StoringNewest_j5 (v8, t8) (m, now, i, t) a.1 = some (Sum.inl s') ∧ (GoodD s'.1 ∧ 0 ≤ s'.2.1 ∧ s'.2.1 ≤ 4 * s'.2.2.1 ∧ 0 ≤ s'.2.2.1 ∧ s'.2.2.1 ≤ 25 ∧ (s'.1.length : Int) ≤ s'.2.2.1 ∧ TapeOk s'.2.2.2) ∧ (25 - s'.2.2.1).toNat < (25 - i).toNat := by
          unfold F_law33_StoringNewest_j5
          simp only [e9, Option.bind_some, hnow, hii]
          exact ⟨_, rfl, ⟨hgood, by dsimp only; omega, by dsimp only; omega, by dsimp only; omega, by dsimp only; omega, by dsimp only; omega, k9⟩, by dsimp only; omega⟩
        rw [hz, hf2]
        simp only [Option.bind_some, bne_self_eq_false, cond_false]
        rw [show ((0 : Int) == 16) = false from rfl, show ((0 : Int) == 0) = true from rfl]
        simp only [cond_false, cond_true]
        rw [hhas, show (decide (r6.Lifetime > 0) == decide (r6.Lifetime > 0)) = true by simp]
        simp only [cond_true]
        cases hd : decide (r6.Lifetime > 0) with
        | false => exact hfin
        | true =>
          obtain ⟨q1, q2, q3⟩ := hall (hhas.trans hd)
          rw [q1, q2, ref_newer]
          simp only [cond_true, bne_self_eq_false, cond_false, Option.bind_some]
          cases hw : (findD m now (tgt v8)).2 with
          | false => exact hfin
          | true =>
            have := q3 hw
            rw [q2] at this
            rw [this]
            exact hfin
    · right
      rw [decF hi]
      exact ⟨_, rfl, rfl⟩) ([], 0, 0, t1) ⟨goodNil, by simp, by simp, by simp, by simp, by simp, k1⟩
  rw [e, hr]
  simp only [Option.bind_some, Sum.elim_inl, known_eq]
theorem storingNewest_holds : Rows.StoringNewestSaid := storingNewest_of fun a0 _ => newest_true a0
#print axioms storingNewest_holds
end Go.Proofs.Ytonlajdaaljncaa
