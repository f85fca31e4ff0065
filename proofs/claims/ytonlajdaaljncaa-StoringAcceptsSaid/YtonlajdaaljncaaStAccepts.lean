/-
  StoringAccepts: Accept and ValidRegister return what the chapter says. Proved for all lists, tapes, times, children and registrations.
-/
import Derived.Test.YtonlajdaaljncaaStEq
import Derived.Test.YtonlajdaaljncaaStSpoil
import Derived.Test.YtonlajdaaljncaaLwStoringAccepts
namespace Go.Proofs.Ytonlajdaaljncaa
open Go.RowKit

theorem acc_list {l : List S_Down} {now via : Int} {r : S_Register} {a : List S_Down × Bool × Int} (hr : wfR r) (h : AccR l now via r a) : (∀ d ∈ a.1, wfD d) ∧ a.1.length ≤ 128 ∧ (a.2.2 = 0 → GoodD a.1) := by
  have hgood := acc_good hr h
  by_cases h0 : a.2.2 = 0
  · have := hgood h0
    exact ⟨this.w, this.v.len, fun _ => this⟩
  · have hnil : a.1 = [] := by
      cases h with
      | bad => rfl
      | there A x B =>
        revert h0
        unfold accT
        cases (decide (x.Until > now) && stale x via r) with
        | true => intro _; rfl
        | false =>
          cases (r.Lifetime == 0) with
          | true => cases decide (x.Until > now) <;> (intro h0; exact absurd rfl h0)
          | false => cases (decide (x.Until > now) && (x.Via == via) && (x.Sequence == r.Sequence) && decide (x.Until ≥ upto now r.Lifetime)) <;> (intro h0; exact absurd rfl h0)
      | new A B =>
        revert h0
        unfold accN
        cases (r.Lifetime == 0) with
        | true => intro h0; exact absurd rfl h0
        | false =>
          cases decide ((A ++ B).length ≥ 128) with
          | true => intro _; rfl
          | false => intro h0; exact absurd rfl h0
    rw [hnil]
    exact ⟨by simp, by simp, fun h => absurd h h0⟩
theorem accepts_true {l : List S_Down} {now via : Int} {r : S_Register} (hw : ∀ d ∈ l, wfD d) (hr : wfR r) : F_law33_accepts l now via r = some true := by
  unfold F_law33_accepts
  obtain ⟨a, e1, e2, ha⟩ := acc_both (now := now) (via := via) hw hr.1
  obtain ⟨h1, h2, h3⟩ := acc_list hr ha
  rw [e1, e2, st_validReg hr.1, rf_validReg]
  simp only [Option.bind_some, beq_self_eq_true, cond_true]
  rw [eqD_self h1 h2, st_valid h1]
  simp only [Option.bind_some, cond_true]
  by_cases h0 : a.2.2 = 0
  · rw [show (a.2.2 != 0) = false by simp [h0], validB_iff.2 (h3 h0).v]
    rfl
  · rw [show (a.2.2 != 0) = true by simpa using h0]
    rfl
theorem accepts_all (raw : List S_Down) (l : List Int) (now via : Int) (r : S_Register) (hraw : ∀ d ∈ raw, wfD d) (hr : wfR r) : F_law33_StoringAccepts raw l now via r = some true := by
  unfold F_law33_StoringAccepts
  by_cases hlen : (raw.length : Int) > 150
  · rw [decT hlen, known_eq]; rfl
  · rw [decF hlen]
    obtain ⟨t1, e1, k1⟩ := new_spec l
    obtain ⟨v2, t2, e2, c2, k2⟩ := base_spec k1
    obtain ⟨m, t3, e3, hg, k3⟩ := downs_spec k2 c2
    simp only [cond_false, e1, Option.bind_some, e2, e3]
    have hj : ∀ (i : Int) (t0 t : S_multihopmade_Tape) (x : S_Register), 0 ≤ i → i < 5 → TapeOk t → wfR x → ∃ t', F_law33_StoringAccepts_j2 (v2, t2) (m, t3) (i, t0) (t, x) = some (Sum.inl (i + 1, t')) ∧ TapeOk t' := by
      intro i t0 t x i0 i1 ht hx
      unfold F_law33_StoringAccepts_j2
      dsimp only
      obtain ⟨v4, t4, e4, c4, k4⟩ := time_spec ht c2
      obtain ⟨v5, t5, e5, _, _, k5⟩ := eui_spec k4
      simp only [e4, Option.bind_some, e5, accepts_true hg.w hx, cond_true]
      rw [wi (by omega) (by omega)]
      exact ⟨t5, rfl, k5⟩
    obtain ⟨q, e, hq⟩ := loop_inv (step := F_law33_StoringAccepts_l1 (m, t3) (v2, t2)) (fun s => 0 ≤ s.1 ∧ s.1 ≤ 5 ∧ TapeOk s.2) (fun r => ∃ t, r = Sum.inl t ∧ TapeOk t) (fun s => (5 - s.1).toNat) (by
      rintro ⟨i, t⟩ ⟨i0, i1, ht⟩
      dsimp only at i0 i1 ht
      unfold F_law33_StoringAccepts_l1
      dsimp only
      by_cases hi : i < 5
      · left
        obtain ⟨x, t4, e4, hx, _, _, k4⟩ := regspec ht
        have fin : ∀ (t' : S_multihopmade_Tape) (y : S_Register), TapeOk t' → wfR y → ∃ s', F_law33_StoringAccepts_j2 (v2, t2) (m, t3) (i, t) (t', y) = some (Sum.inl s') ∧ (0 ≤ s'.1 ∧ s'.1 ≤ 5 ∧ TapeOk s'.2) ∧ (5 - s'.1).toNat < (5 - i).toNat := by
          intro t' y ht' hy
          obtain ⟨t5, e5, k5⟩ := hj i t t' y i0 hi ht' hy
          exact ⟨_, e5, ⟨by dsimp only; omega, by dsimp only; omega, k5⟩, by dsimp only; omega⟩
        rw [decT hi]
        simp only [cond_true, e4, Option.bind_some]
        by_cases hl : (m.length : Int) > 0
        · rw [decT hl]
          have hml := hg.v.len
          obtain ⟨v6, t6, e6, k6⟩ := bool_spec k4 2 (by omega) (by omega)
          obtain ⟨v7, t7, e7, a7, b7, k7⟩ := next_spec k6 (m.length : Int) (by omega) (by omega)
          obtain ⟨v8, t8, e8, a8, b8, k8⟩ := next_spec k7 3 (by omega) (by omega)
          simp only [cond_true, e6, Option.bind_some, e7, e8]
          cases v6 with
          | true =>
            rw [idx_int a7 b7]
            exact fin t8 _ k8 ⟨(hg.w _ (List.getElem_mem _)).1, wrap8_bd _⟩
          | false => exact fin t6 _ k6 hx
        · rw [decF hl]
          exact fin t4 _ k4 hx
      · right
        rw [decF hi]
        exact ⟨_, rfl, t, rfl, ht⟩) (0, t3) ⟨by simp, by simp, k3⟩
    obtain ⟨t, rfl, ht⟩ := hq
    rw [e]
    simp only [Option.bind_some, Sum.elim_inl]
    obtain ⟨m2, t7, e7, hw7, _⟩ := spoiled_spec hg ht
    rw [accepts_true hraw hr, accepts_true hg.w hr, accepts_true hg.w hr, e7]
    simp only [Option.bind_some, cond_true]
    rw [accepts_true hw7 hr, known_eq]
    rfl
theorem storingAccepts_holds : Rows.StoringAcceptsSaid := storingAccepts_of fun a0 a1 a2 a3 a4 h0 _ _ _ h4 => accepts_all a0 a1 a2 a3 a4 (fun d hd => wf_down (h0.2 d hd).1.1 (h0.2 d hd).2.2.1) (wf_reg h4.1.1 h4.2.1)
#print axioms storingAccepts_holds
end Go.Proofs.Ytonlajdaaljncaa
