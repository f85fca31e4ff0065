/-
  Plain laws of the backoff: a step keeps validity and lowers what is left.
-/
import Derived.Test.YtohhaibbbnobpaaBkPlain
namespace Go.Proofs.Ytohhaibbbnobpaa
open Go.RowKit

/-- what may follow after so many busy channels -/
def restB (b : Int) : Int := if b = 0 then 116 else if b = 1 then 99 else if b = 2 then 66 else if b = 3 then 33 else 0
/-- the greatest number of steps that are left -/
def pot (s : Bk) : Int := if s.st = 1 then s.wt + 2 + restB s.bu else if s.st = 2 then s.cl + restB s.bu else 0

theorem powE_cases (ex : Int) (h : ex = 3 ∨ ex = 4 ∨ ex = 5) : (ex = 3 ∧ powE ex = 8) ∨ (ex = 4 ∧ powE ex = 16) ∨ (ex = 5 ∧ powE ex = 32) := by
  rcases h with rfl | rfl | rfl <;> simp [powE]

theorem drawn_valid (s : Bk) (d : Int) (hb : 0 ≤ s.bu ∧ s.bu ≤ 4) (he : s.ex = min (3 + s.bu) 5) : (s.drawn d).Valid ∧ pot (s.drawn d) ≤ (powE s.ex - 1) + 2 + restB s.bu ∧ (s.drawn d).bu = s.bu ∧ ((s.drawn d).st = 1 ∨ (s.drawn d).st = 2) := by
  obtain ⟨st, bu, ex, cl, wt⟩ := s
  dsimp only at hb he
  have hc := powE_cases ex (by omega)
  unfold Bk.drawn
  dsimp only
  generalize powE ex = P at *
  have h1 := Int.emod_nonneg d (by omega : P ≠ 0)
  have h2 := Int.emod_lt_of_pos d (by omega : 0 < P)
  generalize d % P = q at *
  by_cases hq : q = 0
  · subst hq
    simp only [if_true, Bk.Valid, pot]
    refine ⟨⟨hb.1, by omega, he, .inr ⟨hb.2, .inr (.inl ⟨by first | trivial | rfl, by omega, by omega, by first | trivial | rfl⟩)⟩⟩, ?_, by simp, by simp⟩
    simp; omega
  · simp only [hq, if_false, Bk.Valid, pot]
    refine ⟨⟨hb.1, by omega, he, .inr ⟨hb.2, .inl ⟨by first | trivial | rfl, by first | trivial | rfl, by omega, by omega⟩⟩⟩, ?_, by simp, by simp⟩
    simp; omega
theorem begin_valid (d : Int) : (beginB d).Valid ∧ pot (beginB d) ≤ 125 ∧ (beginB d).bu = 0 ∧ ((beginB d).st = 1 ∨ (beginB d).st = 2) := by
  have h := drawn_valid ⟨0, 0, 3, 0, 0⟩ d (by decide) (by decide)
  refine ⟨h.1, Int.le_trans h.2.1 (by decide), h.2.2.1, h.2.2.2⟩

theorem pot_nonneg (s : Bk) (h : s.Valid) : 0 ≤ pot s := by
  obtain ⟨st, bu, ex, cl, wt⟩ := s
  simp only [Bk.Valid, pot, restB] at *
  repeat' split
  all_goals omega

theorem step_keep (s : Bk) (b : Bool) (d : Int) (h : s.Valid) (he : s.st = 3 ∨ s.st = 4) : s.step b d = s := by
  unfold Bk.step validB
  rw [if_pos (by simpa using h), if_neg (by omega), if_neg (by omega)]

theorem step_one (s : Bk) (b : Bool) (d : Int) (h : s.Valid) (he : s.st = 1) :
    (s.step b d).Valid ∧ pot (s.step b d) ≤ pot s - 1 ∧ (s.step b d).bu = s.bu ∧ (s.step b d).cl = 2 ∧ ((s.step b d).st = 1 ∨ (s.step b d).st = 2) := by
  have e : s.step b d = ⟨if s.wt - 1 = 0 then 2 else s.st, s.bu, s.ex, s.cl, s.wt - 1⟩ := by
    unfold Bk.step validB
    rw [if_pos (by simpa using h), if_pos he]
  rw [e]
  obtain ⟨st, bu, ex, cl, wt⟩ := s
  simp only [Bk.Valid] at h he ⊢
  subst he
  by_cases hw : wt - 1 = 0
  · have : wt = 1 := by omega
    subst this
    simp [pot]
    omega
  · simp [pot, hw]
    omega

theorem step_busy (s : Bk) (d : Int) (h : s.Valid) (he : s.st = 2) :
    (s.step true d).Valid ∧ pot (s.step true d) ≤ pot s - 1 ∧ (s.step true d).bu = s.bu + 1 ∧ (s.step true d).cl = 2 ∧
      ((s.bu ≤ 3 ∧ ((s.step true d).st = 1 ∨ (s.step true d).st = 2)) ∨ (s.bu = 4 ∧ (s.step true d).st = 4)) := by
  have e : s.step true d = (if s.bu + 1 ≤ 4 then Bk.drawn ⟨s.st, s.bu + 1, expB (s.bu + 1), s.cl, s.wt⟩ d else ⟨4, s.bu + 1, expB (s.bu + 1), 2, s.wt⟩) := by
    unfold Bk.step validB
    rw [if_pos (by simpa using h), if_neg (by omega), if_pos he]
    rfl
  rw [e]
  have hv := h
  obtain ⟨h0, h5, hx, hr⟩ := h
  by_cases hb : s.bu + 1 ≤ 4
  · rw [if_pos hb]
    have k := drawn_valid ⟨s.st, s.bu + 1, expB (s.bu + 1), s.cl, s.wt⟩ d ⟨by dsimp only; omega, hb⟩ rfl
    refine ⟨k.1, Int.le_trans k.2.1 ?_, k.2.2.1, rfl, .inl ⟨by omega, k.2.2.2⟩⟩
    obtain ⟨st, bu, ex, cl, wt⟩ := s
    dsimp only at *
    subst he
    have hcl : 1 ≤ cl := by omega
    have hbu : bu = 0 ∨ bu = 1 ∨ bu = 2 ∨ bu = 3 := by omega
    clear k e hv hr hx hb h0 h5
    rcases hbu with rfl | rfl | rfl | rfl <;> simp [pot, restB, powE, expB] <;> omega
  · rw [if_neg hb]
    have h4 : s.bu = 4 := by omega
    obtain ⟨st, bu, ex, cl, wt⟩ := s
    dsimp only at *
    subst he h4
    have hw : wt = 0 ∧ 1 ≤ cl := by omega
    refine ⟨?_, ?_, rfl, rfl, .inr ⟨rfl, rfl⟩⟩
    · obtain ⟨rfl, _⟩ := hw
      exact show Bk.Valid ⟨4, 4 + 1, expB (4 + 1), 2, 0⟩ by decide
    · simp [pot, restB]
      omega

theorem step_clear (s : Bk) (d : Int) (h : s.Valid) (he : s.st = 2) :
    (s.step false d).Valid ∧ pot (s.step false d) ≤ pot s - 1 ∧ (s.step false d).bu = s.bu ∧ (s.step false d).cl = s.cl - 1 ∧
      ((s.cl = 2 ∧ (s.step false d).st = 2) ∨ (s.cl = 1 ∧ (s.step false d).st = 3)) := by
  have e : s.step false d = ⟨if s.cl - 1 = 0 then 3 else s.st, s.bu, s.ex, s.cl - 1, s.wt⟩ := by
    unfold Bk.step validB
    rw [if_pos (by simpa using h), if_neg (by omega), if_pos he]
    rfl
  rw [e]
  obtain ⟨st, bu, ex, cl, wt⟩ := s
  simp only [Bk.Valid] at h he ⊢
  subst he
  have hc : cl = 1 ∨ cl = 2 := by omega
  rcases hc with rfl | rfl
  · simp [pot, restB]
    refine ⟨by omega, ?_⟩
    repeat' split
    all_goals omega
  · simp [pot]
    omega
end Go.Proofs.Ytohhaibbbnobpaa
