/-
  The backoff: what its functions compute, in the plain words of BkPlain.
-/
import Derived.Test.YtohhaibbbnobpaaCc
import Derived.Test.YtohhaibbbnobpaaPlain
import Derived.Test.YtohhaibbbnobpaaBkPot
import Derived.Test.YtohhaibbbnobpaaShLaw
namespace Go.Proofs.Ytohhaibbbnobpaa
open Go.RowKit

def bk (s : S_Backoff) : Bk := ⟨s.State, s.Busy, s.Exponent, s.Clear, s.Wait⟩
def sb (b : Bk) : S_Backoff := ⟨b.st, b.bu, b.ex, b.cl, b.wt⟩
@[simp] theorem sb_bk (s : S_Backoff) : sb (bk s) = s := rfl
@[simp] theorem bk_sb (b : Bk) : bk (sb b) = b := rfl
theorem eqb_self (s : S_Backoff) : S_Backoff.eqb s s = true := by simp [S_Backoff.eqb]
theorem sb_if (c : Prop) [Decidable c] (a b : Bk) : sb (if c then a else b) = if c then sb a else sb b := by split <;> rfl

theorem exp_eq (b : Int) (h0 : 0 ≤ b) (h5 : b ≤ 5) : F_backoff_exponent b = some (min (3 + b) 5) := by
  unfold F_backoff_exponent
  rw [wi (by omega) (by omega)]
  congr 1
  split <;> omega
theorem rexp_eq (b : Int) (h0 : 0 ≤ b) (h5 : b ≤ 5) : F_ref08_exponent b = some (min (3 + b) 5) := exp_eq b h0 h5
theorem shl_cases {ex : Int} (h : 3 ≤ ex ∧ ex ≤ 5) : ishl .i64 1 ex = powE ex ∧ ishl .u32 1 ex = powE ex ∧ (powE ex = 8 ∧ ex = 3 ∨ powE ex = 16 ∧ ex = 4 ∨ powE ex = 32 ∧ ex = 5) := by
  have : ex = 3 ∨ ex = 4 ∨ ex = 5 := by omega
  rcases this with rfl | rfl | rfl <;> decide

theorem valid_eq (s : S_Backoff) : F_backoff_Valid s = some (validB (bk s)) := by
  obtain ⟨st, bu, ex, cl, wt⟩ := s
  unfold F_backoff_Valid validB
  simp only [bk, Bk.Valid]
  by_cases h0 : bu < 0
  · simp [h0, show ¬ (0 ≤ bu) by omega]
  by_cases h5 : bu > 5
  · simp [h0, h5, show ¬ (bu ≤ 5) by omega]
  simp only [h0, h5, decide_false, cond_false]
  rw [exp_eq bu (by omega) (by omega)]
  simp only [Option.bind_some]
  by_cases hx : ex = min (3 + bu) 5
  · have hr : 3 ≤ ex ∧ ex ≤ 5 := by omega
    obtain ⟨p1, _, p3⟩ := shl_cases hr
    rw [show (ex != min (3 + bu) 5) = false by simp [hx]]
    simp only [cond_false, p1, show decide (0 ≤ ex) = true by simp; omega, cond_true]
    have hw : IntKind.wrap .i64 (powE ex - 1) = powE ex - 1 := wi (by omega) (by omega)
    rw [hw]
    have e5 : bu ≤ 5 := by omega
    have e0 : 0 ≤ bu := by omega
    simp only [e0, e5, ← hx, true_and]
    repeat' (first | (apply congrArg some; (first | rfl | (symm; simp only [decide_eq_true_eq, decide_eq_false_iff_not, beq_iff_eq, beq_eq_false_iff_ne, ne_eq] at *; first | omega | (apply decide_eq_true; omega) | (apply decide_eq_false; omega) | (apply Bool.eq_iff_iff.2; simp only [decide_eq_true_eq, beq_iff_eq]; omega)))) | (rw [Bool.cond_eq_ite]; split))
  · rw [show (ex != min (3 + bu) 5) = true by simp [hx]]
    simp [hx]

theorem rvalid_eq (s : S_Backoff) : F_ref08_Valid s = some (validB (bk s)) := by
  obtain ⟨st, bu, ex, cl, wt⟩ := s
  unfold F_ref08_Valid validB
  simp only [bk, Bk.Valid]
  by_cases h0 : bu < 0
  · simp [h0, show ¬ (0 ≤ bu) by omega]
  by_cases h5 : bu > 5
  · simp [h0, h5, show ¬ (bu ≤ 5) by omega]
  simp only [h0, h5, decide_false, cond_false]
  rw [rexp_eq bu (by omega) (by omega)]
  simp only [Option.bind_some]
  by_cases hx : ex = min (3 + bu) 5
  · have hr : 3 ≤ ex ∧ ex ≤ 5 := by omega
    obtain ⟨p1, _, p3⟩ := shl_cases hr
    rw [show (ex != min (3 + bu) 5) = false by simp [hx], wu (by omega : 0 ≤ ex) (by omega)]
    simp only [cond_false, p1, show decide (0 ≤ ex) = true by simp; omega, cond_true]
    have e5 : bu ≤ 5 := by omega
    have e0 : 0 ≤ bu := by omega
    simp only [e0, e5, ← hx, true_and]
    repeat' (first | (apply congrArg some; (first | rfl | (symm; simp only [decide_eq_true_eq, decide_eq_false_iff_not, beq_iff_eq, beq_eq_false_iff_ne, ne_eq] at *; first | omega | (apply decide_eq_true; omega) | (apply decide_eq_false; omega) | (apply Bool.eq_iff_iff.2; simp only [decide_eq_true_eq, beq_iff_eq]; omega)))) | (rw [Bool.cond_eq_ite]; split))
  · rw [show (ex != min (3 + bu) 5) = true by simp [hx]]
    simp [hx]
theorem ended_eq (s : S_Backoff) : F_backoff_Ended s = some (endedB (bk s)) := by
  unfold F_backoff_Ended endedB
  rw [valid_eq]
  simp only [Option.bind_some, validB]
  by_cases hv : (bk s).Valid
  · simp only [hv, decide_true, cond_true, true_and]
    by_cases h3 : s.State = 3
    · simp [h3, bk]
    · have e3 : (s.State == 3) = false := by simpa using h3
      rw [e3]
      simp only [cond_false, bk, h3, false_or]
      exact congrArg some (Bool.eq_iff_iff.2 (by simp))
  · simp [hv]
theorem rended_eq (s : S_Backoff) : F_ref08_Ended s = some (endedB (bk s)) := by
  have h := ended_eq s
  unfold F_backoff_Ended at h
  unfold F_ref08_Ended
  rw [rvalid_eq, ← valid_eq]
  exact h

theorem drawn_eq (s : S_Backoff) (d : Int) (hx : 3 ≤ s.Exponent ∧ s.Exponent ≤ 5) (h0 : 0 ≤ d) (h1 : d ≤ 4294967295) : F_backoff_drawn s d = some (sb ((bk s).drawn d)) := by
  obtain ⟨st, bu, ex, cl, wt⟩ := s
  dsimp only at hx
  obtain ⟨_, p2, p3⟩ := shl_cases hx
  unfold F_backoff_drawn F_backoff_drawn_j1
  dsimp only
  rw [p2]
  simp only [show decide (0 ≤ ex) = true by simp; omega, cond_true, show decide (powE ex ≠ 0) = true by simp; omega, sb, bk, Bk.drawn]
  rw [Int.tmod_eq_emod_of_nonneg h0, wi (by have := Int.emod_nonneg d (show powE ex ≠ 0 by omega); omega) (by have := Int.emod_lt_of_pos d (show 0 < powE ex by omega); omega)]
  have h2 := Int.emod_nonneg d (show powE ex ≠ 0 by omega)
  by_cases hq : d % powE ex = 0
  · simp [hq]
  · rw [show decide (d % powE ex > 0) = true by simp; omega]
    simp [hq]
theorem rdrawn_eq (s : S_Backoff) (d : Int) (hx : 3 ≤ s.Exponent ∧ s.Exponent ≤ 5) (h0 : 0 ≤ d) (h1 : d ≤ 4294967295) : F_ref08_drawn s d = some (sb ((bk s).drawn d)) := by
  rw [← drawn_eq s d hx h0 h1]
  unfold F_ref08_drawn F_ref08_drawn_j1 F_backoff_drawn F_backoff_drawn_j1
  rw [wu (by omega : 0 ≤ s.Exponent) (by omega)]
theorem begin_eq (d : Int) (h0 : 0 ≤ d) (h1 : d ≤ 4294967295) : F_backoff_Begin d = some (sb (beginB d)) := by
  unfold F_backoff_Begin
  rw [exp_eq 0 (by omega) (by omega)]
  simp only [Option.bind_some]
  rw [drawn_eq _ d (by decide) h0 h1]
  rfl
theorem rbegin_eq (d : Int) (h0 : 0 ≤ d) (h1 : d ≤ 4294967295) : F_ref08_Begin d = some (sb (beginB d)) := by
  unfold F_ref08_Begin
  rw [rdrawn_eq _ d (by decide) h0 h1]
  rfl
theorem sense_eq (s : S_Backoff) (b : Bool) (d : Int) (hv : (bk s).Valid) (h2 : s.State = 2) (h0 : 0 ≤ d) (h1 : d ≤ 4294967295) : F_backoff_sense s b d = some (sb ((bk s).sense b d)) := by
  obtain ⟨st, bu, ex, cl, wt⟩ := s
  unfold F_backoff_sense F_backoff_sense_j1
  have hv2 : Bk.Valid ⟨st, bu, ex, cl, wt⟩ := hv
  simp only [Bk.Valid] at hv2
  dsimp only at h2 ⊢
  rw [wi (x := bu + 1) (by omega) (by omega), wi (x := cl - 1) (by omega) (by omega)]
  cases b
  · simp only [cond_false, Bk.sense, bk, sb]
    by_cases hc : cl - 1 = 0
    · simp [hc]
    · simp [hc, beqF hc]
  · simp only [cond_true, Bk.sense, bk]
    rw [exp_eq _ (by omega) (by omega)]
    simp only [Option.bind_some, if_true]
    by_cases hb : bu + 1 ≤ 4
    · simp only [hb, decide_true, cond_true, if_true]
      rw [drawn_eq _ d (by dsimp only; omega) h0 h1]
      rfl
    · simp only [hb, decide_false, cond_false, if_false]
      rfl
theorem step_eq (s : S_Backoff) (b : Bool) (d : Int) (h0 : 0 ≤ d) (h1 : d ≤ 4294967295) : F_backoff_Step s b d = some (sb ((bk s).step b d)) := by
  unfold F_backoff_Step F_backoff_Step_j1
  rw [valid_eq]
  simp only [Option.bind_some]
  by_cases hv : (bk s).Valid
  · simp only [Bk.step, validB, hv, decide_true, cond_true, if_true]
    by_cases e1 : s.State = 1
    · have e1' : (bk s).st = 1 := e1
      rw [if_pos e1', show (s.State == 1) = true by simp [e1]]
      have hv2 := hv
      simp only [Bk.Valid, bk] at hv2
      rw [wi (x := s.Wait - 1) (by omega) (by omega)]
      simp only [cond_true]
      by_cases hw : s.Wait - 1 = 0
      · simp [hw, bk, sb]
      · simp [hw, beqF hw, bk, sb]
    · have e1' : ¬ (bk s).st = 1 := e1
      rw [if_neg e1', show (s.State == 1) = false by simp [e1]]
      simp only [cond_false]
      by_cases e2 : s.State = 2
      · have e2' : (bk s).st = 2 := e2
        rw [if_pos e2', show (s.State == 2) = true by simp [e2]]
        simp only [cond_true]
        rw [sense_eq s b d hv e2 h0 h1]
        rfl
      · have e2' : ¬ (bk s).st = 2 := e2
        rw [if_neg e2', show (s.State == 2) = false by simp [e2]]
        rfl
  · simp [Bk.step, validB, hv, sb]
theorem rstep_eq (s : S_Backoff) (b : Bool) (d : Int) (h0 : 0 ≤ d) (h1 : d ≤ 4294967295) : F_ref08_Step s b d = some (sb ((bk s).step b d)) := by
  unfold F_ref08_Step F_ref08_Step_j1
  rw [rvalid_eq]
  simp only [Option.bind_some]
  by_cases hv : (bk s).Valid
  · simp only [Bk.step, validB, hv, decide_true, cond_true, if_true]
    have hv2 := hv
    simp only [Bk.Valid, bk] at hv2
    by_cases e1 : s.State = 1
    · have e1' : (bk s).st = 1 := e1
      rw [if_pos e1', show (s.State == 1) = true by simp [e1]]
      rw [wi (x := s.Wait - 1) (by omega) (by omega)]
      simp only [cond_true]
      by_cases hw : s.Wait - 1 = 0
      · simp [hw, bk, sb]
      · simp [hw, beqF hw, bk, sb]
    · have e1' : ¬ (bk s).st = 1 := e1
      rw [if_neg e1', show (s.State == 1) = false by simp [e1]]
      simp only [cond_false]
      by_cases e2 : s.State = 2
      · have e2' : (bk s).st = 2 := e2
        rw [if_pos e2', show (s.State == 2) = true by simp [e2]]
        simp only [cond_true]
        rw [wi (x := s.Busy + 1) (by omega) (by omega), wi (x := s.Clear - 1) (by omega) (by omega)]
        cases b
        · simp only [cond_false, Bk.sense, bk, sb]
          by_cases hc : s.Clear - 1 = 0
          · simp [hc]
          · simp [hc, beqF hc]
        · simp only [cond_true, Bk.sense]
          rw [rexp_eq _ (by omega) (by omega)]
          simp only [Option.bind_some, if_true]
          by_cases hb : s.Busy + 1 ≤ 4
          · have hb' : (bk s).bu + 1 ≤ 4 := hb
            rw [if_pos hb', show decide (s.Busy + 1 > 4) = false by simp; omega]
            simp only [cond_false]
            rw [rdrawn_eq _ d (by dsimp only; omega) h0 h1]
            rfl
          · have hb' : ¬ (bk s).bu + 1 ≤ 4 := hb
            rw [if_neg hb', show decide (s.Busy + 1 > 4) = true by simp; omega]
            rfl
      · have e2' : ¬ (bk s).st = 2 := e2
        rw [if_neg e2', show (s.State == 2) = false by simp [e2]]
        rfl
  · simp [Bk.step, validB, hv, sb]

theorem at_eq (l : List Int) (i : Int) (h0 : 0 ≤ i) : F_law08_at l i = some (l.getD i.toNat 0) := by
  unfold F_law08_at
  by_cases h : i < (l.length : Int)
  · rw [show decide (i < (l.length : Int)) = true by simp; omega]
    have hl : i.toNat < l.length := by omega
    simp [idx, h0, List.getElem?_eq_getElem hl, List.getD]
  · rw [show decide (i < (l.length : Int)) = false by simp; omega]
    have hl : l.length ≤ i.toNat := by omega
    simp [List.getD, List.getElem?_eq_none hl]
theorem at_bd {l : List Int} (h : ∀ z ∈ l, (Lit.int .u32 z).wf = true) (i : Nat) : 0 ≤ l.getD i 0 ∧ l.getD i 0 ≤ 4294967295 := by
  rw [List.getD_eq_getElem?_getD]
  cases hz : l[i]? with
  | none => simp
  | some z =>
    obtain ⟨hi, rfl⟩ := List.getElem?_eq_some_iff.1 hz
    exact u32_bd (h _ (List.getElem_mem hi))
theorem busy_some (l : List Int) (i : Int) (h0 : 0 ≤ i) (h1 : i ≤ 1000) : ∃ b, F_law08_busy l i = some b := by
  unfold F_law08_busy
  by_cases hl : l.length = 0
  · exact ⟨false, by simp [hl]⟩
  · rw [show (((l.length : Int)) == 0) = false by simp; simpa using hl, show decide ((l.length : Int) ≠ 0) = true by simp; simpa using hl]
    have e1 : iquo .i64 i 8 = i / 8 := by
      unfold iquo
      rw [Int.tdiv_eq_ediv_of_nonneg h0, wi (by omega) (by omega)]
    have e2 : Int.tmod i 8 = i % 8 := Int.tmod_eq_emod_of_nonneg h0
    rw [e1, Int.tmod_eq_emod_of_nonneg (by omega), e2, wu (by omega : 0 ≤ i % 8) (by omega)]
    have h2 := Int.emod_nonneg (i / 8) (show (l.length : Int) ≠ 0 by omega)
    have h3 := Int.emod_lt_of_pos (i / 8) (show 0 < (l.length : Int) by omega)
    generalize i / 8 % (l.length : Int) = q at *
    have hq : q.toNat < l.length := by omega
    simp only [cond_false, cond_true, idx, h2, if_true, List.getElem?_eq_getElem hq, Option.bind_some, show decide (0 ≤ i % 8) = true by simp; omega]
    exact ⟨_, rfl⟩
noncomputable def busyB (l : List Int) (i : Nat) : Bool := (F_law08_busy l i).getD false
theorem busy_eq (l : List Int) (i : Nat) (h1 : i ≤ 1000) : F_law08_busy l i = some (busyB l i) := by
  obtain ⟨b, hb⟩ := busy_some l i (by omega) (by omega)
  unfold busyB
  rw [hb]; rfl
theorem known_eq : F_law08_known = some true := by
  unfold F_law08_known
  rw [begin_eq 9 (by decide) (by decide)]
  simp only [Option.bind_some]
  have e : loopO F_law08_known_l1 (0, sb (beginB 9)) = some (sb ⟨3, 0, 3, 0, 0⟩) := by
    have st : ∀ (i : Int) (b : Bk), i < 3 → 0 ≤ i → F_law08_known_l1 (i, sb b) = some (Sum.inl (i + 1, sb (b.step false 0))) := by
      intro i b h1 h2
      unfold F_law08_known_l1
      rw [show decide ((i, sb b).1 < 3) = true by simpa using h1]
      simp only [cond_true]
      rw [step_eq _ _ _ (by decide) (by decide), wi (by omega) (by omega)]
      rfl
    rw [loop_next (st 0 _ (by decide) (by decide)), loop_next (st _ _ (by decide) (by decide)), loop_next (st _ _ (by decide) (by decide))]
    refine loop_done ?_
    rfl
  rw [e]
  simp only [Option.bind_some]
  rw [ended_eq]
  decide +kernel
end Go.Proofs.Ytohhaibbbnobpaa
